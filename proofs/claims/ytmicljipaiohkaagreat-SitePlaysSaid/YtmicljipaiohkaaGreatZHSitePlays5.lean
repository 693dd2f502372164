/- Texts of this work, joined. -/
import Derived.Test.YtmicljipaiohkaaGreatZHSitePlays4
set_option linter.unusedSimpArgs false
set_option linter.unusedVariables false
set_option maxRecDepth 100000
set_option maxHeartbeats 16000000
namespace Go.Proofs.YtmicljipaiohkaaGreat
open Go Go.RowKit Go.Proofs.Tryz
open Go.Lib renaming hid → Xj
open _root_.List renaming getElem?_eq_getElem → Xk, mem_of_getElem? → Xl, map_cons → Xm, getElem?_eq_some_iff → Xn, map_append → Xo, length_take → Xp, setIfInBounds_toArray → Xq, take_length → Xt, map_nil → Xu, set_cons_zero → Xv, set_cons_succ → Xx, getElem?_map → Xz, length_cons → XA, length_map → XC, all_eq_true → XE, pairwise_iff_getElem → XF, findIdx?_eq_some_iff_getElem → XH, length_drop → XI, getD_eq_getElem?_getD → XJ, getElem?_append_right → XK, take_of_length_le → XN, mem_map → XQ, getElem?_take_of_lt → XS, getElem?_eq_none → XT, any_eq_true → XU, replicate → XV, length_append → XY, length_nil → XZ, mem_iff_getElem → X0, mem_append → X2, append_assoc → X3, getElem?_append_left → X4, range → X5, mem_cons → X7, cons_append → X8, eq_nil_of_length_eq_zero → X9, nil_append → Ya, getElem_of_mem → Yb, mem_singleton → Yc, mem_of_mem_drop → Yd, take → Yf, mem_of_mem_take → Yg, any_eq_false → Yh, ext_getElem? → Yj, getElem?_drop → Yk, take_append_of_le_length → Yl, getElem_mem → Ym, findIdx?_eq_none_iff → Yn, find?_eq_none → Yq, set_append_right → Yt, append_nil → Yv, getElem?_cons_succ → Yw, pairwise_cons → YC, mem_of_find?_eq_some → YF, size_toArray → YH, eraseIdx_eq_take_drop_succ → YK, foldl_cons → YO, drop_eq_getElem_cons → YQ, mem_range → YR, pairwise_append → YT, length_set → YV, filter_append → YW, take_append_drop → YX, filter_eq_self → Y0, toList_toArray → Y1, all_eq_false → Y2, pairwise_map → Y3, mem_or_eq_of_mem_set → Y4, drop_length → Y7, mem_map_of_mem → Y8, length_filter_le → Za, mem_cons_of_mem → Zc, length_pos_iff → Zd, mem_iff_getElem? → Ze, find?_some → Zh, filter_filter → Zi, getElem?_take → Zj, foldl_append → Zn, flatMap_append → Zs, mem_filter → Zt, filter_cons → Zu, getElem_take → ZA, map_take → ZH, contains_iff_mem → ZL, all_append → ZO, getElem?_replicate → ZX, mem_flatMap → ZY, getElem_cons_drop → ZZ, filter_congr → Z2, getElem?_set → Z3, take_zero → Z4, getElem?_set_ne → Z7, length_eraseIdx → Z8, mem_cons_self → F', length → I', nodup_append → N', take_sublist → O', drop → _j
open Go.World renaming size_alloc → Xr, heap_drewN → Xs, size_drew → Xw, cell? → YS, cell?_of_block → Zl, setRow → ZE
open _root_.Bool renaming and_eq_true → Xy, eq_iff_iff → Yi, and_self → Yp, true_and → Yr, and_true → YA, false_eq_true → YB, eq_false_iff → YE, or_eq_false_iff → Zm, not_eq_true' → Zz, not_eq_true → ZI, and_eq_false_iff → ZK, false_or → ZT, not_true → Z0, and_assoc → P'
open _root_.Nat renaming le_refl → XB, zero_le → XD, zero_add → XG, reduceEqDiff → XL, reduceAdd → XM, lt_or_ge → XP, add_zero → XW, sub_zero → Yo, mul_le_mul_right → Ys, lt_of_lt_of_le → Yx, le_trans → Yy, sub_self → YG, not_lt_zero → YJ, lt_trichotomy → Zb, min_self → Zq, add_assoc → ZF, eq_zero_or_pos → ZJ, min → ZM, add_mul → ZQ, reduceLT → ZR, min_def → Z6, le_of_lt → p', lt_or_eq_of_le → G', lt_or_gt_of_ne → H', le_of_lt_succ → Q', mul_one → X', one_le_two_pow → Z', not_lt → _g
open _root_.Option renaming map_eq_some_iff → XO, isSome_some → XR, some → XX, map_some → Ye, getD_some → YI, isSome_none → YZ, isSome_iff_exists → Zf, map_none → Zg, toList_some → _a
open _root_.Array renaming getElem?_toList → X6, getElem?_eq_some_iff → Yz, getElem?_eq_none → YM, replicate → Y5, getElem?_modify → Y9
open _root_.Int renaming dvd_of_emod_eq_zero → YL, lt_irrefl → YN, emod_eq_zero_of_dvd → ZB, le_refl → ZG, fdiv_eq_ediv_of_nonneg → Z5, lt_or_le → z', dvd_trans → C', max_eq_right → _e, max_eq_left → _i
theorem o0 {v:Vpc}(hk:VpcOK v){s:Sbn}(hs:s∈v.subs):s.at_.right=true∧(s.faces.flatMap (·.addrs)).Nodup∧(s.faces.Pairwise fun a b=>a.id < b.id)∧∀f∈s.faces,kN s.at_ f=true:=by
 have h:=hk.subs s hs;unfold ml fB dD at h;simp only[Xy,XU,XE,decide_eq_true_eq,fX]at h;obtain⟨-,⟨r,-,hr⟩,h1,h2,h3⟩:=h;exact⟨(eY.1 hr).1,h2,h3,h1⟩
theorem fH {α:Type}{p:α→Bool}{l:List α}{i:Nat}(h:l.findIdx? p=some i):∃pre x post,l=pre++x::post∧pre.length=i∧p x=true∧l[i]? =some x:=by
 obtain⟨hlt,hp,-⟩:=XH.1 h;exact⟨l.take i,l[i],l.drop (i+1),by rw[ZZ,YX],by rw[Xp];omega,hp,Xk hlt⟩
def kn (s:Sbn)(id:Int):Int:=
 if cF id=false then 3 else if (s.faces.any fun f=>f.id==id)=true then 6 else if s.faces.length=8 then 2 else if (eA s).isSome=false then 8 else 0
def gA (v:Vpc)(sub id:Int):Vpc × Int × Int:=
 if bN v≠0 then (Vpc.zero,0,bN v)else
 match v.subs.findIdx? (fun s=>s.id==sub)with
 |none=>(Vpc.zero,0,5)
 |some i=>match v.subs[i]? with
  |none=>(Vpc.zero,0,5)
  |some s=>if kn s id≠0 then (Vpc.zero,0,kn s id)else ({v with subs:=v.subs.set i {s with faces:=df (·.id) ⟨id,[(eA s).getD 0]⟩ s.faces}},(eA s).getD 0,0)
theorem Ol (v:Vpc)(sub id:Int):af prog 72 [.agg (al v),.v (.int .i64 sub),.v (.int .i64 id)] (.tup [.agg (al (gA v sub id).1),.v (.int .i64 (gA v sub id).2.1),.v (.int .i64 (gA v sub id).2.2)]):=by
 obtain⟨R,hR⟩:∃R,R=gA v sub id:=⟨_,rfl⟩;rw[←hR];replace hR:=Xj hR;by_cases hc:bN v=0
 ·have hk:=aY hc;have gN:=ut v sub id hk.n6 (fun s hs=>(hk.n8 s hs).1);unfold v9 at gN;cases hf:v.subs.findIdx? (fun s=>s.id==sub)with
  |none=>
   have cQ:=k7 v hc hk.n4 hk.n6 hk.n8;rw[hf]at gN;have hr:R=(Vpc.zero,0,5):=by rw[hR.out];unfold gA;rw[if_neg (by simpa using hc),hf]
   rw[hr];clear hr hR hf hc hk;refine pj func72 ntmps72 results72 ?_;have z1z:=Ln.mk (ls:=[]) (cQ);refine am ?_<;>intros;exact dg
  |some i=>
   obtain⟨pre,s,post,hv,iG,-,hs⟩:=fH hf;have kq:=Xl hs;obtain⟨s1,s2,s3,s4⟩:=o0 hk kq;have iH:=hk.n8 s kq;have cQ:=v8 v pre post s hv hc hk.n4 hk.n6 hk.n8;have hle:=Gc s iH.1 iH.2 s1 s2;have hid:=kL id;have im:=fK (fun f=>f.id==id) s.faces;have jU:decide ((i:Int) < 0)=false:=by simp
   have aP:R=if kn s id≠0 then (Vpc.zero,0,kn s id)else ({v with subs:=pre++{s with faces:=df (·.id) ⟨id,[(eA s).getD 0]⟩ s.faces}::post},(eA s).getD 0,0):=by
    rw[hR.out];unfold gA;rw[if_neg (by simpa using hc),hf];simp only;rw[hs];simp only;rw[hv,←iG,Yt _ _ (XB _),YG,Xv]
   rw[hf]at gN;simp only at gN;unfold sH at gN;rw[hs]at gN;simp only[al,hv,Xo,Xm,aU]at gN;have o9:v.subs.length=pre.length+1+post.length:=by rw[hv];simp;omega
   subst iG;simp only[aU]at hle;by_cases bH:kn s id≠0
   ·rw[if_pos bH]at aP;unfold kn at aP bH;generalize cF id=I at*;generalize cv (fun f=>f.id==id) s.faces=IX at*;generalize (s.faces.any fun f=>f.id==id)=M at*;generalize eA s=LS at*;have I8:((s.faces.length:Int)==8)=decide (s.faces.length=8):=by rw[Yi];simp;omega
    replace aP:=Xj aP;replace bH:=Xj bH;clear hR hc hk hf hs kq hv;refine pj func72 ntmps72 results72 ?_;repeat' (first|(with_reducible refine And.intro ?_ ?_)|(with_reducible refine cm (fun _=>?_) (fun _=>?_))|(with_reducible refine aA (fun _=>?_) (fun _=>?_))|(with_reducible refine be (by kernel_rfl))|simp -dsimp only[go_sem,seval, *,al,ci,iy,qY,qX,mV,jU,I8,im]|((with_reducible refine bf ?_);simp -dsimp only[go_sem,seval,al,ci,iy,qY,qX,mV,jU,I8,im];first|refine aC (by first|assumption|exact gN|exact hid|exact hle) (by first|exact .inl rfl|exact .inr rfl) ?_|(refine aB (by assumption) ?_ ?_ ?_;(solve|(repeat(first|exact ai.refl _|exact ai.nil _|(refine ai.tup ?_)|(refine ai.agg ?_ rfl)|exact trivial|(refine And.intro ?_ ?_))));(solve|exact .inl rfl|exact .inr rfl)))|(refine aX [] (cQ) ?_ ?_ ?_ ?_ ?_ ?_;(solve|rfl|simp only[go_sem,seval,al,ci,iy]);(solve|rfl);(solve|decide);(solve|simp);(solve|simp only[go_sem,seval,ax,al,ci,iy]))|omega|exact decide_eq_true (by omega)|exact ai.refl _)
    all_goals
     have h1:=aP.out;have h2:=bH.out;clear gN hid hle cQ;first
      |(exfalso;grind)
      |(rw[show R=(Vpc.zero,0,3) from (by rw[h1];grind)];exact dg)
      |(rw[show R=(Vpc.zero,0,6) from (by rw[h1];grind)];exact dg)
      |(rw[show R=(Vpc.zero,0,2) from (by rw[h1];grind)];exact dg)
      |(rw[show R=(Vpc.zero,0,8) from (by rw[h1];grind)];exact dg)
   ·rw[if_neg bH]at aP;have hg:kn s id=0:=by simpa using bH
    obtain⟨g1,g2,g3,g4⟩:cF id=true∧(s.faces.any fun f=>f.id==id)=false∧s.faces.length≠8∧(eA s).isSome=true:=by
     unfold kn at hg;generalize (s.faces.any fun f=>f.id==id)=M at*;grind
    obtain⟨a,ha⟩:=Zf.1 g4;have bB:∀f∈s.faces,f.id≠(⟨id,[a]⟩:Fce).id:=fun f hf=>by have:=Yh.1 g2 f hf;simpa using this
    have nF:=H2 (l:=s.faces++[⟨id,[a]⟩]) (l':=df (·.id) ⟨id,[a]⟩ s.faces) (s.faces.length+1) (by simp) (fY _ _ _) (gx s3 bB) (by simp;omega);rw[ha]at hle aP;rw[g1]at hid;rw[g2]at im;simp only[YI,XR]at hle aP;have I8:((s.faces.length:Int)==8)=false:=by simp;omega
    have i7:s.faces.length+1≤100:=by omega
    simp only[Xo,Xm,Xu]at nF;rw[aP];clear hR aP hc hk bB hg bH hf hs kq hv g4 ha;refine pj func72 ntmps72 results72 ?_;have z1z:=@ci.eq_1;have z2z:=Ln.mk (ls:=[]) (cQ);have z3z:=Ln.mk (ls:=[8]) (nF);refine am ?_<;>intros;all_goals(simp only[al,aU,Xo,Xm];exact dg)
 ·have cQ:=k6 v hc;have h1:(bN v !=0)=true:=by simpa using hc
  have hr:R=(Vpc.zero,0,bN v):=by rw[hR.out];unfold gA;rw[if_pos hc]
  rw[hr];replace hr:=Xj hr;refine pj func72 ntmps72 results72 ?_;have z1z:=Ln.mk (ls:=[]) (cQ);refine am ?_<;>intros;exact dg
section
open Go.Proofs Go.Shelf
theorem xC (F:Array Int)(cur:Array Value)(h:F.size≤cur.size):(Sort.putCells (Value.int .i64) 0 F cur).toList.take F.size=F.toList.map (Value.int .i64)∧(Sort.putCells (Value.int .i64) 0 F cur).size=cur.size:=by
 refine⟨?_,by simp[Sort.putCells]⟩;apply Yj;intro i;by_cases hi:i < F.size
 ·rw[XS hi];have hc:i < cur.size:=by omega
  simp[Sort.putCells,hi,hc]
 ·rw[XT (by rw[Xp];omega),XT (by simp;omega)]
theorem Lb {l l':List Int}(hp:l'.Perm l)(hs:l'.Pairwise fun x y=>x < y):(l.mergeSort fun x y=>decide (x≤y))=l':=by
 refine List.Perm.eq_of_pairwise (le:=fun x y:Int=>x≤y) (fun a b _ _ h1 h2=>by omega) ?_ (hs.imp fun h=>by omega) ((List.mergeSort_perm l _).trans hp.symm);have:=List.pairwise_mergeSort (le:=fun x y:Int=>decide (x≤y)) (fun a b c h1 h2=>by simp at*;omega) (fun a b=>by simp;omega) l;exact this.imp fun h=>by simpa using h
theorem H3 {P:Program}{ρ:Ren}(L:SlLaysN.n53 P ρ){f E g:Nat}(hf:ρ.f 53=f)(Rg:xg P f){l l':List Int}(pG:l≠[])(hp:l'.Perm l)(hs:l'.Pairwise fun x y=>x < y)(cP:l.length≤1000000):
 MSpec P f [.own 0 g] [.row E 1 g (ab (l.map cD))] (.d (.tup [])) [.row E 1 g (ab (l'.map cD))]:=by
 refine⟨Rg,XB _,by simp[an,aq],by simp[aH,aQ,az],fun X hP hn hm w c vs hr lq=>?_⟩;have bT:=lq.1;match vs,bT with
 |[v0],_=>
  have r0:=lq.2 0 _ v0 rfl rfl;have bB:ab (l.map cD)≠[]:=by simpa[ab]using pG
  have bc:=hr.chunk 0;have gS:∀m:List Int,(ab (m.map cD)).flatten=m.map fun a=>PV.d (.v (.int .i64 a)):=by
   intro m;rw[pw];induction m with
   |nil=>rfl
   |cons a m ih=>simp[cD,ih]
  cases r0 with
  |own _ _ _ ee h1=>
   obtain⟨gb,cap,rfl⟩:=lZ bc ee bB;obtain⟨cur,xs,q1,q2,q3,q4,q5,q6,q7,q8,q9,q10,q11⟩:=ed bc ee bB;have pF:(ab (l.map cD)).length=l.length:=by rw[aF,XC]
   rw[pF]at q3 q4 q8 q10 ee ⊢;rw[X']at q3 q4 q8 q11;rw[gS]at q2;have L3:xs=l.map (Value.int .i64):=by
    apply Yj;intro j;by_cases hj:j < l.length
    ·obtain⟨u,e1⟩:∃u,xs[j]? =some u:=⟨_,Xk (by omega)⟩;have:=q2.2 j (.d (.v (.int .i64 l[j]))) u (by rw[Xz,Xk hj];rfl) e1;rw[e1,Xz,Xk hj];cases co this;rfl
    ·rw[XT (by omega),XT (by simp;omega)]
   have hH:Sort.Holds (Value.int .i64) w gb 0 l.toArray:=by
    intro j hj;have hj':j < l.length:=by simpa using hj
    have dy:∀o,w.cell? ⟨gb,o,none⟩=cur[o]? :=fun o=>by simp[YS,q1]
    refine⟨?_,lM q1⟩;rw[XG,dy,q4 j hj',L3,Xz,Xk hj',getElem!_pos l.toArray j hj];simp
   have hg:gb < w.heap.size:=(Yz.1 q1).1;have iW:=AnyG.slices_Sort_int L gb 0 cap l w hH hg (by omega);rw[hf,Lb hp hs]at iW;refine iW.mono fun e w' ⟨he,m,os,hw'⟩=>?_;have My:l'.length=l.length:=hp.length_eq;obtain⟨p1,p2⟩:=xC l'.toArray cur (by simp;omega);have xN:0 < cap:=by have:=Zd.2 pG;omega
   have hhb:w'.heap[gb]? =some (.cells (Sort.putCells (Value.int .i64) 0 l'.toArray cur) E (0,0)):=by
    rw[hw',Sort.heap_grow_old _ _ (by simpa using hg)];show (w.heap.modify gb (Sort.onCells _))[gb]? =_;rw[Y9,if_pos rfl,q1];rfl
   have eP:OneB w w' (some gb):=by
    refine⟨by rw[hw'];rfl,by rw[hw'];rfl,by rw[hw'];rfl,?_,fun b hb bB=>?_⟩
    ·rw[hw',Sort.size_grow,Sort.size_putRow,Sort.heap_ahead];omega
    ·rw[hw',Sort.heap_grow_old _ _ (by simpa using hb)];show (w.heap.modify gb (Sort.onCells _))[b]? =_;rw[Y9,if_neg (fun e=>bB (by rw[e]))]
   have Fj:∀r∈ab (l'.map cD),r.length=1:=fun r hr=>by
    obtain⟨q,hq,rfl⟩:=iq hr;obtain⟨x,-,rfl⟩:=XQ.1 hq;rfl
   have oI:bG c w (ab (l'.map cD)).flatten (l'.map (Value.int .i64)):=by
    rw[gS];refine⟨by simp,fun j d v hj hv=>?_⟩;rw[Xz,XO]at hj hv;obtain⟨a,ha,rfl⟩:=hj;obtain⟨b,hb,rfl⟩:=hv;rw[ha]at hb;cases hb;exact .d _ _ (.v _)
   have Dp:=hr.put_row (w':=w') (k:=0) (rows':=ab (l'.map cD)) (xs':=l'.map (Value.int .i64)) rfl ee (by rw[dh xN];exact eP) (by
    rw[aF,XC,My];exact .row gb l.length cap _ _ xN hhb q10 q9 (by rw[p2,X'];exact q11) (by rw[XC,X'];omega) (by
     rw[X',←My,show l'.length=l'.toArray.size by simp,p1])) oI Fj (kH (enc:=cD) (fun _=>rfl) l')
   have mH:cE [(0,Chunk.row E 1 g (ab (l'.map cD)))] (bQ [] [.row E 1 g (ab (l.map cD))]).heap=aG [.row E 1 g (ab (l'.map cD))]:=by
    funext k;rw[qt];cases k with
    |zero=>rfl
    |succ k=>rfl
   rw[mH]at Dp;refine⟨_,c,he,.d _ _ (.tup [] [] rfl fun j d x h=>by simp at h),Dp⟩
theorem Lc {l l':List Int}(g:Nat)(pG:l≠[])(hp:l'.Perm l)(hs:l'.Pairwise fun x y=>x < y)(cP:l.length≤1000000):MSpec prog 158 [.own 0 g] [.row 3 1 g (ab (l.map cD))] (.d (.tup [])) [.row 3 1 g (ab (l'.map cD))]:=
 H3 sortInt rfl (cW func158 (by kernel_rfl) rfl) pG hp hs cP
end
def dU (v:Vpc)(sub id:Int):Vpc × Int:=
 if bN v≠0 then (Vpc.zero,bN v)else
 match v.subs.findIdx? (fun s=>s.id==sub)with
 |none=>(Vpc.zero,5)
 |some i=>match v.subs[i]? with
  |none=>(Vpc.zero,5)
  |some s=>match s.faces.findIdx? (fun f=>f.id==id)with
   |none=>(Vpc.zero,5)
   |some k=>({v with subs:=v.subs.set i {s with faces:=s.faces.eraseIdx k}},0)
theorem Ld (v:Vpc)(sub id:Int):af prog 74 [.agg (al v),.v (.int .i64 sub),.v (.int .i64 id)] (.tup [.agg (al (dU v sub id).1),.v (.int .i64 (dU v sub id).2)]):=by
 obtain⟨R,hR⟩:∃R,R=dU v sub id:=⟨_,rfl⟩;rw[←hR];replace hR:=Xj hR;by_cases hc:bN v=0
 ·have hk:=aY hc;have gN:=ut v sub id hk.n6 (fun s hs=>(hk.n8 s hs).1);have ud:decide ((-1:Int) < 0)=true:=rfl;unfold v9 at gN;cases hf:v.subs.findIdx? (fun s=>s.id==sub)with
  |none=>
   have cQ:=k7 v hc hk.n4 hk.n6 hk.n8;rw[hf]at gN;have hr:R=(Vpc.zero,5):=by rw[hR.out];unfold dU;rw[if_neg (by simpa using hc),hf]
   rw[hr];clear hr hR hf hc hk;refine pj func74 ntmps74 results74 ?_;have z1z:=Ln.mk (ls:=[]) (cQ);refine am ?_<;>intros;exact dg
  |some i=>
   obtain⟨pre,s,post,hv,iG,-,hs⟩:=fH hf;have kq:=Xl hs;have iH:=hk.n8 s kq;have cQ:=v8 v pre post s hv hc hk.n4 hk.n6 hk.n8;rw[hf]at gN;simp only at gN;unfold sH at gN;rw[hs]at gN;simp only[al,hv,Xo,Xm,aU]at gN;unfold cv at gN;have o9:v.subs.length=pre.length+1+post.length:=by rw[hv];simp;omega
   cases hg:s.faces.findIdx? (fun f=>f.id==id)with
   |none=>
    rw[hg]at gN;have hr:R=(Vpc.zero,5):=by rw[hR.out];unfold dU;rw[if_neg (by simpa using hc),hf];simp only;rw[hs];simp only;rw[hg]
    rw[hr];subst iG;clear hr hR hc hk hf hs kq hv hg;refine pj func74 ntmps74 results74 ?_;have z1z:=@ci.eq_1;have z2z:=Ln.mk (ls:=[]) (cQ);refine am ?_<;>intros;exact dg
   |some k=>
    rw[hg]at gN;have uw:k < s.faces.length:=(XH.1 hg).1;have hr:R=({v with subs:=pre++{s with faces:=s.faces.eraseIdx k}::post},0):=by
     rw[hR.out];unfold dU;rw[if_neg (by simpa using hc),hf];simp only;rw[hs];simp only;rw[hg];simp only;rw[hv,←iG,Yt _ _ (XB _),YG,Xv]
    have hd:=Cq (enc:=cl) s.faces k (k+1) s.faces.length uw rfl;have cM:=wi k (by omega);have hk0:decide ((k:Int) < 0)=false:=by simp
    rw[hr];subst iG;clear hr hR hc hk hf hs kq hv hg;refine pj func74 ntmps74 results74 ?_;have z1z:=@ci.eq_1;have z2z:=Ln.mk (ls:=[]) (cQ);have z3z:=Ln.mk (ls:=[8]) (hd);refine am ?_<;>intros;all_goals(first|omega|(simp only[al,aU,Xo,Xm];exact dg))
 ·have cQ:=k6 v hc;have TU:=sI sub id;have h1:(bN v !=0)=true:=by simpa using hc
  have hr:R=(Vpc.zero,bN v):=by rw[hR.out];unfold dU;rw[if_pos hc]
  rw[hr];replace hr:=Xj hr;refine pj func74 ntmps74 results74 ?_;have z1z:=Ln.mk (ls:=[]) (cQ);refine am ?_<;>intros;exact dg
theorem qc {used:List Int}{p:Pfx}:∀{n:Nat}{x a:Int},fG used p n x=some a→a∉used∧iO p a=true
 |0,x,a,h=>by cases h
 |n+1,x,a,h=>by
  unfold fG at h;split at h
  ·rename_i hi;split at h
   ·exact qc h
   ·rename_i hu;cases h;exact⟨hu,hi⟩
  ·cases h
def gh (v:Vpc)(sub id:Int):Vpc × Int × Int:=
 if bN v≠0 then (Vpc.zero,0,bN v)else
 match v.subs.findIdx? (fun s=>s.id==sub)with
 |none=>(Vpc.zero,0,5)
 |some i=>match v.subs[i]? with
  |none=>(Vpc.zero,0,5)
  |some s=>match s.faces.findIdx? (fun f=>f.id==id)with
   |none=>(Vpc.zero,0,5)
   |some k=>match s.faces[k]? with
    |none=>(Vpc.zero,0,5)
    |some f=>if f.addrs.length=4 then (Vpc.zero,0,2)else match eA s with
     |none=>(Vpc.zero,0,8)
     |some a=>({v with subs:=v.subs.set i {s with faces:=s.faces.set k {f with addrs:=df (fun x=>x) a f.addrs}}},a,0)
theorem Qz (v:Vpc)(sub id:Int):af prog 73 [.agg (al v),.v (.int .i64 sub),.v (.int .i64 id)] (.tup [.agg (al (gh v sub id).1),.v (.int .i64 (gh v sub id).2.1),.v (.int .i64 (gh v sub id).2.2)]):=by
 obtain⟨R,hR⟩:∃R,R=gh v sub id:=⟨_,rfl⟩;rw[←hR];replace hR:=Xj hR;by_cases hc:bN v=0
 ·have hk:=aY hc;have gN:=ut v sub id hk.n6 (fun s hs=>(hk.n8 s hs).1);have ud:decide ((-1:Int) < 0)=true:=rfl;unfold v9 at gN;cases hf:v.subs.findIdx? (fun s=>s.id==sub)with
  |none=>
   have cQ:=k7 v hc hk.n4 hk.n6 hk.n8;rw[hf]at gN;have hr:R=(Vpc.zero,0,5):=by rw[hR.out];unfold gh;rw[if_neg (by simpa using hc),hf]
   rw[hr];clear hr hR hf hc hk;refine pj func73 ntmps73 results73 ?_;have z1z:=Ln.mk (ls:=[]) (cQ);refine am ?_<;>intros;exact dg
  |some i=>
   obtain⟨pre,s,post,hv,iG,-,hs⟩:=fH hf;have kq:=Xl hs;obtain⟨s1,s2,s3,s4⟩:=o0 hk kq;have iH:=hk.n8 s kq;rw[hf]at gN;simp only at gN;unfold sH at gN;rw[hs]at gN;have o9:v.subs.length=pre.length+1+post.length:=by rw[hv];simp;omega
   cases hg:s.faces.findIdx? (fun f=>f.id==id)with
   |none=>
    have cQ:=v8 v pre post s hv hc hk.n4 hk.n6 hk.n8;simp only[al,hv,Xo,Xm,aU]at gN;unfold cv at gN;rw[hg]at gN;have hr:R=(Vpc.zero,0,5):=by rw[hR.out];unfold gh;rw[if_neg (by simpa using hc),hf];simp only;rw[hs];simp only;rw[hg]
    rw[hr];subst iG;clear hr hR hc hk hf hs kq hv hg;refine pj func73 ntmps73 results73 ?_;have z1z:=@ci.eq_1;have z2z:=Ln.mk (ls:=[]) (cQ);refine am ?_<;>intros;exact dg
   |some k=>
    obtain⟨preF,f,postF,xQ,AM,-,sY⟩:=fH hg;have Du:=Xl sY;have cQ:=K8 v pre post s preF postF f hv xQ hc hk.n4 hk.n6 hk.n8;have hle:=Gc s iH.1 iH.2 s1 s2;have gS:=iH.2 f Du;simp only[aU,xQ,Xo,Xm,cl]at hle;simp only[al,hv,Xo,Xm,aU]at gN;unfold cv at gN;rw[hg]at gN;simp only[xQ,Xo,Xm,cl]at gN;have Rt:s.faces.length=preF.length+1+postF.length:=by rw[xQ];simp;omega
    have hk0:decide ((k:Int) < 0)=false:=by simp
    have aP:R=if f.addrs.length=4 then ((Vpc.zero,0,2):Vpc × Int × Int)else match eA s with
     |none=>(Vpc.zero,0,8)
     |some a=>({v with subs:=pre++{s with faces:=preF++{f with addrs:=df (fun x=>x) a f.addrs}::postF}::post},a,0):=by
     rw[hR.out];unfold gh;rw[if_neg (by simpa using hc),hf];simp only;rw[hs];simp only;rw[hg];simp only;rw[sY];simp only;split
     ·rfl
     ·cases eA s with
      |none=>rfl
      |some a=>
       simp only;rw[hv,←iG,Yt _ _ (XB _),YG,Xv];rw[xQ,←AM,Yt _ _ (XB _),YG,Xv]
    by_cases h4:f.addrs.length=4
    ·rw[if_pos h4]at aP;have h4b:((f.addrs.length:Int)==4)=true:=by simp;omega
     rw[aP];subst iG;subst AM;clear hR aP hc hk hf hs kq hv hg sY Du;refine pj func73 ntmps73 results73 ?_;have z1z:=@ci.eq_1;have z2z:=@d6.eq_1;have z3z:=Ln.mk (ls:=[]) (cQ);refine am ?_<;>intros;all_goals(first|omega|exact dg)
    ·rw[if_neg h4]at aP;have h4b:((f.addrs.length:Int)==4)=false:=by simp;omega
     cases hl:eA s with
     |none=>
      rw[hl]at aP hle;simp only[Option.getD_none,YZ]at hle;rw[aP];subst iG;subst AM;clear hR aP hc hk hf hs kq hv hg sY Du;refine pj func73 ntmps73 results73 ?_;have z1z:=@ci.eq_1;have z2z:=@d6.eq_1;have z3z:=Ln.mk (ls:=[]) (cQ);refine am ?_<;>intros;all_goals(first|omega|exact dg)
     |some a=>
      rw[hl]at aP hle;simp only[YI,XR]at hle;have MQ:a∉f.addrs:=fun h=>(qc hl).1 (ZY.2 ⟨f,Du,h⟩);have uh:f.addrs.Pairwise fun x y=>x < y:=by
       have:=s4 f Du;unfold kN at this;simp only[Xy,fX]at this;exact this.2.2.1
      have nF:=Lc (l:=f.addrs++[a]) (l':=df (fun x=>x) a f.addrs) 2 (by simp) (fY _ _ _) (gx uh (fun y hy e=>MQ (e ▸ hy))) (by simp;omega);simp only[Xo,Xm,Xu]at nF;have i7:f.addrs.length+1≤100:=by omega
      rw[aP];subst iG;subst AM;clear hR aP hc hk hf hs kq hv hg sY Du MQ uh hl;refine pj func73 ntmps73 results73 ?_;have z1z:=@ci.eq_1;have z2z:=@d6.eq_1;have z3z:=Ln.mk (ls:=[]) (cQ);have z4z:=Ln.mk (ls:=[10]) (nF);refine am ?_<;>intros;all_goals(first|omega|(simp only[al,aU,cl,Xo,Xm];exact dg))
 ·have cQ:=k6 v hc;have TU:=sI sub id;have h1:(bN v !=0)=true:=by simpa using hc
  have hr:R=(Vpc.zero,0,bN v):=by rw[hR.out];unfold gh;rw[if_pos hc]
  rw[hr];replace hr:=Xj hr;refine pj func73 ntmps73 results73 ?_;have z1z:=Ln.mk (ls:=[]) (cQ);refine am ?_<;>intros;exact dg
def RH (b:Bok)(n:Net)(c:Cmd)(a:Ans):List D:=[.v (.int .i64 b.tick),.sl 9 (b.pools.map ah),.sl 3 (n.vpcs.map al),.sl 2 (n.links.map bJ),.v (.int .i64 c.op),.v (.int .i64 c.a),.v (.int .i64 c.b),.v (.int .i64 c.c),.v (.int .i64 c.at_.at_),.v (.int .i64 c.at_.len),.v (.int .i64 c.rule.min),.v (.int .i64 c.rule.max),.v (.int .i64 c.rule.usual),.v (.int .i64 c.rule.cool),.v (.int .i64 a.err),.v (.int .i64 a.at_.at_),.v (.int .i64 a.at_.len),.v (.int .i64 a.n)]
theorem wa (b:Bok)(n:Net)(c:Cmd)(a:Ans)(v:Vpc):af prog 140 [.agg (al v),.ept [.ept (RH b n c a)]] (.v (.bool (v.id==c.a))):=by
 unfold RH;refine pj func140 ntmps140 results140 ?_;exact aZ
theorem H4 (b:Bok)(n:Net)(c:Cmd)(h6:n.vpcs.length≤1000000000)(k:Nat)(hk:cv (fun v=>v.id==c.a) n.vpcs=k)(hlt:k < n.vpcs.length):
 MSpec prog 67 [.ptr 0 0] [.box 86 (ja b (.own 1 n.vpcs.length) (.d (.sl 2 (n.links.map bJ))) c .zero),.row 55 3 n.vpcs.length (ab (n.vpcs.map al))] (.rp 1 n.vpcs.length 3 k 0)
  [.box 86 (ja b (.own 1 n.vpcs.length) (.d (.sl 2 (n.links.map bJ))) c .zero),.row 55 3 n.vpcs.length (ab (n.vpcs.map al))]:=by
 have hx:=vR iK (fun v=>v.id==c.a) n.vpcs 140 [.ept [.ept (RH b n c .zero)]] h6 (fun v _=>wa b n c .zero v);unfold RH at hx;rw[hk]at hx;clear hk;have e1:decide ((k:Int) < 0)=false:=by simp
 have dH:(k:Int) < (n.vpcs.length:Int):=by omega
 refine iN ae ak func67 rfl ntmps67 results67 (by kernel_rfl) (by simp) (by simp[an,aq]) (by simp[aH,aQ,an,aq,ja,bn,az]) ?_;refine am ?_;exact wf
theorem EJ (b:Bok)(n:Net)(c:Cmd)(h6:n.vpcs.length≤1000000000)(hk:cv (fun v=>v.id==c.a) n.vpcs < 0):
 MSpec prog 67 [.ptr 0 0] [.box 86 (ja b (.own 1 n.vpcs.length) (.d (.sl 2 (n.links.map bJ))) c .zero),.row 55 3 n.vpcs.length (ab (n.vpcs.map al))] (.d (.v (.pointer none)))
  [.box 86 (ja b (.own 1 n.vpcs.length) (.d (.sl 2 (n.links.map bJ))) c .zero),.row 55 3 n.vpcs.length (ab (n.vpcs.map al))]:=by
 have hx:=vR iK (fun v=>v.id==c.a) n.vpcs 140 [.ept [.ept (RH b n c .zero)]] h6 (fun v _=>wa b n c .zero v);unfold RH at hx;have e1:decide (cv (fun v=>v.id==c.a) n.vpcs < 0)=true:=by simpa using hk
 replace hk:=Xj hk;generalize cv (fun v=>v.id==c.a) n.vpcs=i at*;refine iN ae ak func67 rfl ntmps67 results67 (by kernel_rfl) (by simp) (by simp[an,aq]) (by simp[aH,aQ,an,aq,ja,bn,az]) ?_;refine am ?_;exact wf
def lO (b:Bok)(n:Net)(c:Cmd)(i:Nat)(v:Vpc):Bok × Net × Ans:=
 if c.op=8 then
  if (cO b c.b c.c c.a).2.2=0 then ((cO b c.b c.c c.a).1,(gP n c.a ⟨(cO b c.b c.c c.a).2.1,c.b⟩).1,⟨(gP n c.a ⟨(cO b c.b c.c c.a).2.1,c.b⟩).2,(cO b c.b c.c c.a).2.1,0⟩)
  else ((cO b c.b c.c c.a).1,n,⟨(cO b c.b c.c c.a).2.2,(cO b c.b c.c c.a).2.1,0⟩)
 else if c.op=9 then
  if (dM v c.at_).2.2=0 then ((fg b (dM v c.at_).2.1.pool (dM v c.at_).2.1.at_).1,{n with vpcs:=n.vpcs.set i (dM v c.at_).1},.er (fg b (dM v c.at_).2.1.pool (dM v c.at_).2.1.at_).2)
  else (b,{n with vpcs:=n.vpcs.set i (dM v c.at_).1},.er (dM v c.at_).2.2)
 else if c.op=10 then (b,{n with vpcs:=n.vpcs.set i (nD v c.b c.at_).1},.er (nD v c.b c.at_).2)
 else if c.op=11 then (b,{n with vpcs:=n.vpcs.set i (fk v c.b).1},.er (fk v c.b).2)
 else if c.op=12 then (b,{n with vpcs:=n.vpcs.set i (gA v c.b c.c).1},⟨(gA v c.b c.c).2.2,⟨0,0⟩,(gA v c.b c.c).2.1⟩)
 else if c.op=13 then (b,{n with vpcs:=n.vpcs.set i (gh v c.b c.c).1},⟨(gh v c.b c.c).2.2,⟨0,0⟩,(gh v c.b c.c).2.1⟩)
 else (b,{n with vpcs:=n.vpcs.set i (dU v c.b c.c).1},.er (dU v c.b c.c).2)
def jr (b:Bok)(n:Net)(c:Cmd):Bok × Net × Ans:=
 if cv (fun v=>v.id==c.a) n.vpcs < 0 then (b,n,.er 5)else
 match n.vpcs[(cv (fun v=>v.id==c.a) n.vpcs).toNat]? with
 |some v=>lO b n c (cv (fun v=>v.id==c.a) n.vpcs).toNat v
 |none=>(b,n,.er 5)
theorem Le (b:Bok)(n:Net)(c:Cmd)(h6:n.vpcs.length≤1000000000)(hk:cv (fun v=>v.id==c.a) n.vpcs < 0):
 MSpec prog 29 [.ptr 0 0] [.box 86 (ja b (.own 1 n.vpcs.length) (.d (.sl 2 (n.links.map bJ))) c .zero),.row 55 3 n.vpcs.length (ab (n.vpcs.map al))] (.d (.tup []))
  [.box 86 (ja b (.d (.sl 3 (n.vpcs.map al))) (.d (.sl 2 (n.links.map bJ))) c (.er 5)),.gone]:=by
 have hw:=Lr.mk (ls:=[0,1]) (EJ b n c h6 hk);simp only[ja]at hw;clear hk h6;refine iN ae ak func29 rfl ntmps29 results29 (by kernel_rfl) (by simp) (by simp[an,aq]) (by simp[aH,aQ,an,aq,ja,bn,az]) ?_;refine am ?_;refine(ap 1 n.vpcs.length 55 3 (n.vpcs.map al) rfl).trans ?_;simp only[iu,fz,gr,f7,gV,f5,aR,bR,bW,Xm,Xu,XM,XL,reduceIte,and_true,true_and,and_self,and_false,false_and,XG,XW,reduceCtorEq];exact wf
theorem Lf (b:Bok)(n:Net)(c:Cmd)(hz:∀p∈b.pools,p.leases.length≤3518437208882)(h6:n.vpcs.length≤1000000000)(k:Nat)(hk:cv (fun v=>v.id==c.a) n.vpcs=k)(v:Vpc)(hv:n.vpcs[k]? =some v)(ho:8≤c.op∧c.op≤14):
 MSpec prog 29 [.ptr 0 0] [.box 86 (ja b (.own 1 n.vpcs.length) (.d (.sl 2 (n.links.map bJ))) c .zero),.row 55 3 n.vpcs.length (ab (n.vpcs.map al))] (.d (.tup []))
  [.box 86 (ja (lO b n c k v).1 (.d (.sl 3 ((lO b n c k v).2.1.vpcs.map al))) (.d (.sl 2 ((lO b n c k v).2.1.links.map bJ))) c (lO b n c k v).2.2),.gone]:=by
 have hlt:=(Xn.1 hv).1;have dH:(k:Int) < (n.vpcs.length:Int):=by omega
 have hw:=Lr.mk (ls:=[0,1]) (H4 b n c h6 k hk hlt);simp only[ja]at hw;have lQ:c.op=8∨c.op=9∨c.op=10∨c.op=11∨c.op=12∨c.op=13∨c.op=14:=by omega
 clear ho hk h6;unfold lO;rcases lQ with h1|h1|h1|h1|h1|h1|h1
 ·rw[if_pos h1];have hp:=KI b c.b c.c c.a hz;generalize cO b c.b c.c c.a=R at*;replace hz:=Xj hz;rw[h1]at hw;by_cases h2:R.2.2=0
  ·rw[if_pos h2];have hg:=Ln.mk (ls:=[1]) (vg (N9 n c.a ⟨R.2.1,c.b⟩) (args:=[.agg [.own 0 n.vpcs.length,.d (.sl 2 (n.links.map bJ))],.d (.v (.int .i64 c.a)),.d (.agg (bv ⟨R.2.1,c.b⟩))]) (h0:=[.row 55 3 n.vpcs.length (ab (n.vpcs.map al))]) (by simp[an,aq]) (by simp[aH,aQ,az]) (by simp[vw,cJ,bp,aG,eG,aK]) (by simp[tc,jh,cT,aG,nU]));generalize gP n c.a ⟨R.2.1,c.b⟩=G at*;refine iN ae ak func29 rfl ntmps29 results29 (by kernel_rfl) (by simp) (by simp[an,aq]) (by simp[aH,aQ,an,aq,ja,bn,az]) ?_;refine am ?_;exact wf
  ·rw[if_neg h2];have e2:(R.2.2==0)=false:=by simpa using h2
   replace h2:=Xj h2;refine iN ae ak func29 rfl ntmps29 results29 (by kernel_rfl) (by simp) (by simp[an,aq]) (by simp[aH,aQ,an,aq,ja,bn,az]) ?_;refine am ?_;refine(ap 1 n.vpcs.length 55 3 (n.vpcs.map al) rfl).trans ?_;simp only[iu,fz,gr,f7,gV,f5,aR,bR,bW,Xm,Xu,XM,XL,reduceIte,and_true,true_and,and_self,and_false,false_and,XG,XW,reduceCtorEq];exact wf
 ·rw[if_neg (by omega),if_pos h1];have hp:=Oj v c.at_;generalize dM v c.at_=R at*;have hg:=KJ b R.2.1.pool R.2.1.at_ hz;replace hz:=Xj hz;rw[h1]at hw;by_cases h2:R.2.2=0
  ·rw[if_pos h2];generalize fg b R.2.1.pool R.2.1.at_=G at*;have bY:(ab (n.vpcs.map al)).set k [.d (.v (.int .i64 R.1.id)),.d (.sl 3 (R.1.ranges.map bv)),.d (.sl 4 (R.1.subs.map aU))]=ab ((n.vpcs.set k R.1).map al):=bO al n.vpcs k R.1;refine iN ae ak func29 rfl ntmps29 results29 (by kernel_rfl) (by simp) (by simp[an,aq]) (by simp[aH,aQ,an,aq,ja,bn,az]) ?_;refine am ?_;refine(ap 1 n.vpcs.length 55 3 ((n.vpcs.set k R.1).map al) rfl).trans ?_;simp only[iu,fz,gr,f7,gV,f5,aR,bR,bW,Xm,Xu,XM,XL,reduceIte,and_true,true_and,and_self,and_false,false_and,XG,XW,reduceCtorEq];exact wf
  ·rw[if_neg h2];have e2:(R.2.2==0)=false:=by simpa using h2
   replace h2:=Xj h2;clear hg;have bY:(ab (n.vpcs.map al)).set k [.d (.v (.int .i64 R.1.id)),.d (.sl 3 (R.1.ranges.map bv)),.d (.sl 4 (R.1.subs.map aU))]=ab ((n.vpcs.set k R.1).map al):=bO al n.vpcs k R.1;refine iN ae ak func29 rfl ntmps29 results29 (by kernel_rfl) (by simp) (by simp[an,aq]) (by simp[aH,aQ,an,aq,ja,bn,az]) ?_;refine am ?_;refine(ap 1 n.vpcs.length 55 3 ((n.vpcs.set k R.1).map al) rfl).trans ?_;simp only[iu,fz,gr,f7,gV,f5,aR,bR,bW,Xm,Xu,XM,XL,reduceIte,and_true,true_and,and_self,and_false,false_and,XG,XW,reduceCtorEq];exact wf
 ·rw[if_neg (by omega),if_neg (by omega),if_pos h1];have hp:=Qy v c.b c.at_;generalize nD v c.b c.at_=R at*;replace hz:=Xj hz;rw[h1]at hw;have bY:(ab (n.vpcs.map al)).set k [.d (.v (.int .i64 R.1.id)),.d (.sl 3 (R.1.ranges.map bv)),.d (.sl 4 (R.1.subs.map aU))]=ab ((n.vpcs.set k R.1).map al):=bO al n.vpcs k R.1;refine iN ae ak func29 rfl ntmps29 results29 (by kernel_rfl) (by simp) (by simp[an,aq]) (by simp[aH,aQ,an,aq,ja,bn,az]) ?_;refine am ?_;refine(ap 1 n.vpcs.length 55 3 ((n.vpcs.set k R.1).map al) rfl).trans ?_;simp only[iu,fz,gr,f7,gV,f5,aR,bR,bW,Xm,Xu,XM,XL,reduceIte,and_true,true_and,and_self,and_false,false_and,XG,XW,reduceCtorEq];exact wf
 ·rw[if_neg (by omega),if_neg (by omega),if_neg (by omega),if_pos h1];have hp:=Ok v c.b;generalize fk v c.b=R at*;replace hz:=Xj hz;rw[h1]at hw;have bY:(ab (n.vpcs.map al)).set k [.d (.v (.int .i64 R.1.id)),.d (.sl 3 (R.1.ranges.map bv)),.d (.sl 4 (R.1.subs.map aU))]=ab ((n.vpcs.set k R.1).map al):=bO al n.vpcs k R.1;refine iN ae ak func29 rfl ntmps29 results29 (by kernel_rfl) (by simp) (by simp[an,aq]) (by simp[aH,aQ,an,aq,ja,bn,az]) ?_;refine am ?_;refine(ap 1 n.vpcs.length 55 3 ((n.vpcs.set k R.1).map al) rfl).trans ?_;simp only[iu,fz,gr,f7,gV,f5,aR,bR,bW,Xm,Xu,XM,XL,reduceIte,and_true,true_and,and_self,and_false,false_and,XG,XW,reduceCtorEq];exact wf
 ·rw[if_neg (by omega),if_neg (by omega),if_neg (by omega),if_neg (by omega),if_pos h1];have hp:=Ol v c.b c.c;generalize gA v c.b c.c=R at*;replace hz:=Xj hz;rw[h1]at hw;have bY:(ab (n.vpcs.map al)).set k [.d (.v (.int .i64 R.1.id)),.d (.sl 3 (R.1.ranges.map bv)),.d (.sl 4 (R.1.subs.map aU))]=ab ((n.vpcs.set k R.1).map al):=bO al n.vpcs k R.1;refine iN ae ak func29 rfl ntmps29 results29 (by kernel_rfl) (by simp) (by simp[an,aq]) (by simp[aH,aQ,an,aq,ja,bn,az]) ?_;refine am ?_;refine(ap 1 n.vpcs.length 55 3 ((n.vpcs.set k R.1).map al) rfl).trans ?_;simp only[iu,fz,gr,f7,gV,f5,aR,bR,bW,Xm,Xu,XM,XL,reduceIte,and_true,true_and,and_self,and_false,false_and,XG,XW,reduceCtorEq];exact wf
 ·rw[if_neg (by omega),if_neg (by omega),if_neg (by omega),if_neg (by omega),if_neg (by omega),if_pos h1];have hp:=Qz v c.b c.c;generalize gh v c.b c.c=R at*;replace hz:=Xj hz;rw[h1]at hw;have bY:(ab (n.vpcs.map al)).set k [.d (.v (.int .i64 R.1.id)),.d (.sl 3 (R.1.ranges.map bv)),.d (.sl 4 (R.1.subs.map aU))]=ab ((n.vpcs.set k R.1).map al):=bO al n.vpcs k R.1;refine iN ae ak func29 rfl ntmps29 results29 (by kernel_rfl) (by simp) (by simp[an,aq]) (by simp[aH,aQ,an,aq,ja,bn,az]) ?_;refine am ?_;refine(ap 1 n.vpcs.length 55 3 ((n.vpcs.set k R.1).map al) rfl).trans ?_;simp only[iu,fz,gr,f7,gV,f5,aR,bR,bW,Xm,Xu,XM,XL,reduceIte,and_true,true_and,and_self,and_false,false_and,XG,XW,reduceCtorEq];exact wf
 ·rw[if_neg (by omega),if_neg (by omega),if_neg (by omega),if_neg (by omega),if_neg (by omega),if_neg (by omega)];have hp:=Ld v c.b c.c;generalize dU v c.b c.c=R at*;replace hz:=Xj hz;rw[h1]at hw;have bY:(ab (n.vpcs.map al)).set k [.d (.v (.int .i64 R.1.id)),.d (.sl 3 (R.1.ranges.map bv)),.d (.sl 4 (R.1.subs.map aU))]=ab ((n.vpcs.set k R.1).map al):=bO al n.vpcs k R.1;refine iN ae ak func29 rfl ntmps29 results29 (by kernel_rfl) (by simp) (by simp[an,aq]) (by simp[aH,aQ,an,aq,ja,bn,az]) ?_;refine am ?_;refine(ap 1 n.vpcs.length 55 3 ((n.vpcs.set k R.1).map al) rfl).trans ?_;simp only[iu,fz,gr,f7,gV,f5,aR,bR,bW,Xm,Xu,XM,XL,reduceIte,and_true,true_and,and_self,and_false,false_and,XG,XW,reduceCtorEq];exact wf
theorem sJ {α:Type}(p:α→Bool)(l:List α):cv p l < 0∨∃(k:Nat) (x:α),cv p l=k∧l[k]? =some x:=by
 unfold cv;cases h:l.findIdx? p with
 |none=>left;simp
 |some k=>
  right;have hk:=(XH.1 h).1;exact⟨k,_,rfl,Xk hk⟩
theorem Om (b:Bok)(n:Net)(c:Cmd)(hz:∀p∈b.pools,p.leases.length≤3518437208882)(h6:n.vpcs.length≤1000000000)(ho:8≤c.op∧c.op≤14):
 MSpec prog 29 [.ptr 0 0] [.box 86 (ja b (.own 1 n.vpcs.length) (.d (.sl 2 (n.links.map bJ))) c .zero),.row 55 3 n.vpcs.length (ab (n.vpcs.map al))] (.d (.tup []))
  [.box 86 (ja (jr b n c).1 (.d (.sl 3 ((jr b n c).2.1.vpcs.map al))) (.d (.sl 2 ((jr b n c).2.1.links.map bJ))) c (jr b n c).2.2),.gone]:=by
 unfold jr;rcases sJ (fun v:Vpc=>v.id==c.a) n.vpcs with h|⟨k,v,hk,hv⟩
 ·rw[if_pos h];exact Le b n c h6 h
 ·rw[hk,if_neg (by omega),Int.toNat_natCast,hv];exact Lf b n c hz h6 k hk v hv ho
def Af (s:Ste)(c:Cmd):Ste × Ans:=
 if 1≤c.op∧c.op≤6 then (⟨(mC s.book s.net.vpcs c).1,s.net⟩,(mC s.book s.net.vpcs c).2)
 else if yP c=true then (⟨s.book,(xB s.book s.net c).1⟩,(xB s.book s.net c).2)
 else if 8≤c.op∧c.op≤14 then (⟨(jr s.book s.net c).1,(jr s.book s.net c).2.1⟩,(jr s.book s.net c).2.2)
 else (s,.er 4)
def Ag (s:Ste)(c:Cmd):Ste × Ans × Int:=
 if iA s≠0 then (.zero,.zero,iA s)
 else if (Af s c).2.err≠0 then (s,.er (Af s c).2.err,0)else ((Af s c).1,(Af s c).2,0)
theorem wb {s:Ste}(h:iA s=0):a9 s.book=0∧cK s.net=0:=by
 unfold iA at h;split at h
 ·rename_i h1;exact absurd h h1
 ·rename_i h1;split at h
  ·rename_i h2;exact absurd h h2
  ·rename_i h2;exact⟨by simpa using h1,by simpa using h2⟩
theorem Ud (s:Ste)(c:Cmd)(hz:∀p∈s.book.pools,p.leases.length≤3518437208882):af prog 8 [.agg (eW s),.agg (kh c)] (.tup [.agg (eW (Ag s c).1),.agg (ly (Ag s c).2.1),.v (.int .i64 (Ag s c).2.2)]):=by
 have hc:=Ci s hz;unfold Ag;by_cases h:iA s=0
 ·rw[if_neg (by simpa using h)];rw[h]at hc;obtain⟨xG,pb⟩:=wb h;have zk:=dF xG;have cf:=gO.1 pb;have n8:=zk.n8;have fu:=zk.l32;have n6:=cf.n6;have Rm:∀v∈s.net.vpcs,v.ranges.length≤1000000000:=fun v hv=>by have:=(aY (cf.vp v hv)).n4;omega
  have how:=Ln.mk (ls:=[]) (Qq s zk cf);have cn:=Ln.mk (ls:=[10,9]) (Qp s.book s.net.vpcs s.net.links c hz n6 Rm);clear h xG pb zk cf Rm;unfold Af;by_cases lQ:1≤c.op∧c.op≤6
  ·rw[if_pos lQ];rw[decide_eq_true lQ]at cn;replace lQ:=Xj lQ;replace hz:=Xj hz;replace fu:=Xj fu;generalize mC s.book s.net.vpcs c=X at*;simp only[ja,Ans.zero]at cn;by_cases he:X.2.err=0
   ·rw[if_neg (by simpa using he)];have e0:(X.2.err !=0)=false:=by simpa using he
    replace he:=Xj he;refine pj func8 ntmps8 results8 ?_;first|exact aZ|(refine am ?_;exact dz)
   ·rw[if_pos (by simpa using he)];have e0:(X.2.err !=0)=true:=by simpa using he
    replace he:=Xj he;refine pj func8 ntmps8 results8 ?_;first|exact aZ|(refine am ?_;exact dz)
  rw[if_neg lQ];rw[decide_eq_false lQ]at cn;have OY:mC s.book s.net.vpcs c=(s.book,.zero):=by unfold mC;rw[if_neg (by omega),if_neg (by omega),if_neg (by omega),if_neg (by omega),if_neg (by omega),if_neg (by omega)]
  rw[OY]at cn;clear OY;cases PJ:yP c with
  |true=>
   rw[if_pos rfl];have I9:=Ln.mk (ls:=[10,9]) (Qv s.book s.net c (by omega) (fun p hp=>by have:=fu p hp;omega) PJ);replace lQ:=Xj lQ;replace hz:=Xj hz;replace fu:=Xj fu;replace PJ:=Xj PJ;generalize xB s.book s.net c=X at*;simp only[ja,Ans.zero]at cn I9;by_cases he:X.2.err=0
   ·rw[if_neg (by simpa using he)];have e0:(X.2.err !=0)=false:=by simpa using he
    replace he:=Xj he;refine pj func8 ntmps8 results8 ?_;first|exact aZ|(refine am ?_;exact dz)
   ·rw[if_pos (by simpa using he)];have e0:(X.2.err !=0)=true:=by simpa using he
    replace he:=Xj he;refine pj func8 ntmps8 results8 ?_;first|exact aZ|(refine am ?_;exact dz)
  |false=>
   rw[if_neg Bool.false_ne_true];have I9:=Ln.mk (ls:=[10,9]) (Qu s.book s.net c PJ);by_cases Ma:8≤c.op∧c.op≤14
   ·rw[if_pos Ma];have dB:=Ln.mk (ls:=[10,9]) (Om s.book s.net c hz (by omega) Ma);have e1:decide (c.op < 8)=false:=by simp;omega
    have e2:decide (c.op>14)=false:=by simp;omega
    replace lQ:=Xj lQ;replace hz:=Xj hz;replace fu:=Xj fu;replace PJ:=Xj PJ;replace Ma:=Xj Ma;generalize jr s.book s.net c=X at*;simp only[ja,Ans.zero]at cn I9 dB;by_cases he:X.2.2.err=0
    ·rw[if_neg (by simpa using he)];have e0:(X.2.2.err !=0)=false:=by simpa using he
     replace he:=Xj he;refine pj func8 ntmps8 results8 ?_;first|exact aZ|(refine am ?_;exact dz)
    ·rw[if_pos (by simpa using he)];have e0:(X.2.2.err !=0)=true:=by simpa using he
     replace he:=Xj he;refine pj func8 ntmps8 results8 ?_;first|exact aZ|(refine am ?_;exact dz)
   ·rw[if_neg Ma];rw[if_pos (by simp[Ans.er])];replace hz:=Xj hz;replace fu:=Xj fu;replace PJ:=Xj PJ;replace lQ:=Xj lQ;simp only[ja,Ans.zero]at cn I9;by_cases h8:c.op < 8
    ·have e1:decide (c.op < 8)=true:=by simpa using h8
     replace h8:=Xj h8;replace Ma:=Xj Ma;refine pj func8 ntmps8 results8 ?_;first|exact aZ|(refine am ?_;exact dz)
    ·have e1:decide (c.op < 8)=false:=by simpa using h8
     have e2:decide (c.op>14)=true:=by simp;omega
     replace h8:=Xj h8;replace Ma:=Xj Ma;refine pj func8 ntmps8 results8 ?_;first|exact aZ|(refine am ?_;exact dz)
 ·rw[if_pos h];have e1:(iA s !=0)=true:=by simpa using h
  generalize iA s=X at*;replace h:=Xj h;refine pj func8 ntmps8 results8 ?_;refine am ?_;exact dz
theorem yQ (p:Pol)(hb:p.leases.length≤3518437208882):af prog 102 [.agg (ah p)] (.agg (Ea p.root (p.leases.map (·.at_)))):=by
 refine pj func102 ntmps102 results102 ?_;refine am ?_<;>intros;refine bL ae ak (fun m e h=>∃k g:Nat,k≤p.leases.length∧m=p.leases.length - k∧e=[(4,.d (.v (.int .i64 k))),(3,.ptr 2 0),(2,.ptr 1 0),(1,.ptr 0 0)]∧
  h=[.box 62 ((ah p).map .d),.box 151 [.d (.v (.int .i64 0)),.d (.v (.int .i64 0)),.d (.v (.slice none 0 0))],.box 151 [.d (.v (.int .i64 p.root.at_)),.d (.v (.int .i64 p.root.len)),.own 3 g],.row 32 2 g (ab (((p.leases.map (·.at_)).take k).map aN))]) _ _ _ ⟨0,0,XD _,rfl,rfl,rfl⟩ ?_ ?_
 ·exact(au (by simp) 2 _ _ 2 _ _ rfl rfl rfl).trans (wf (x:=[]) (hh:=rfl) (he:=⟨rfl,rfl,rfl,rfl,trivial⟩))
 ·rintro m e h ⟨k,g,hk,rfl,rfl,rfl⟩ C hC;by_cases hlt:k < p.leases.length
  ·obtain⟨l,hl⟩:∃l,p.leases[k]? =some l:=⟨_,Xk hlt⟩;have en:(k:Int) < (p.leases.length:Int):=by omega
   have cM:=wi k (by omega);have rI:(((p.leases.map (·.at_)).take k).length+1)*16≤140737488355328:=by rw[Xp,XC];omega
   repeat' (first|(with_reducible refine And.intro ?_ ?_)|(with_reducible refine cm (fun _=>?_) (fun _=>?_))|(with_reducible refine aA (fun _=>?_) (fun _=>?_))|(with_reducible refine be (by kernel_rfl))|simp -dsimp only[go_sem,seval, *,ah,aV,hl,hlt,en,cM,rI,Xp]|((with_reducible refine bf ?_);simp -dsimp only[go_sem,seval,ah,aV,hl,hlt,en,cM,rI,Xp];first|refine aC (by first|assumption|fail) (by first|exact .inl rfl|exact .inr rfl) ?_|(refine aB (by assumption) ?_ ?_ ?_;(solve|(repeat(first|exact ai.refl _|exact ai.nil _|(refine ai.tup ?_)|(refine ai.agg ?_ rfl)|exact trivial|(refine And.intro ?_ ?_))));(solve|exact .inl rfl|exact .inr rfl)))|fail|omega|exact decide_eq_true (by omega)|exact ai.refl _)
   have UP:(p.leases.map (·.at_)).take (k+1)=(p.leases.map (·.at_)).take k++[l.at_]:=ag (by rw[Xz,hl];rfl);refine hC _ _ _ _ _ ?_ ⟨k+1,g+1,hlt,rfl,rfl,rfl⟩ (wf (x:=[]) (hh:=?_) (he:=⟨rfl,rfl,rfl,rfl,trivial⟩))
   ·omega
   ·rw[UP,Xo];rfl
  ·obtain rfl:k=p.leases.length:=by omega
   refine am ?_<;>intros;rw[XN (by simp)];all_goals exact ai.refl _
theorem oA {a b:Bool}(h:b=a):ai (.v (.bool a)) (.v (.bool b)):=h ▸ ai.refl _
theorem tG {a b:Int}(h:b=a):ai (.v (.int .i64 a)) (.v (.int .i64 b)):=h ▸ ai.refl _
theorem ek (n lo hi:Int):af prog 75 [.v (.int .i64 n),.v (.int .i64 lo),.v (.int .i64 hi)] (.v (.bool (decide (lo≤n)&&decide (n≤hi)))):=by
 refine pj func75 ntmps75 results75 ?_;exact aZ;all_goals exact oA (by grind)
theorem qd (r:Rul)(p:Pfx):af prog 103 [.agg (pi r),.agg (aN p)] (.v (.bool (fD r p.len))):=by
 have hw:=ek r.cool 0 1024;have he:fD r p.len=((decide (p.len≤r.min)&&(decide (r.min≤r.usual)&&(decide (r.usual≤r.max)&&decide (r.max≤16))))&&(decide (0≤r.cool)&&decide (r.cool≤1024))):=by
  unfold fD;congr 1;simp[f9]
 replace he:=Xj he;refine pj func103 ntmps103 results103 ?_;repeat' (first|(with_reducible refine And.intro ?_ ?_)|(with_reducible refine cm (fun _=>?_) (fun _=>?_))|(with_reducible refine aA (fun _=>?_) (fun _=>?_))|(with_reducible refine be (by kernel_rfl))|simp -dsimp only[go_sem,seval, *,pi,aN]|((with_reducible refine bf ?_);simp -dsimp only[go_sem,seval,pi,aN];first|refine aC (by first|assumption|exact hw) (by first|exact .inl rfl|exact .inr rfl) ?_|(refine aB (by assumption) ?_ ?_ ?_;(solve|(repeat(first|exact ai.refl _|exact ai.nil _|(refine ai.tup ?_)|(refine ai.agg ?_ rfl)|exact trivial|(refine And.intro ?_ ?_))));(solve|exact .inl rfl|exact .inr rfl)))|fail|omega|exact decide_eq_true (by omega)|exact ai.refl _)
 all_goals exact oA (by rw[he.out];clear hw;grind)
def Pq (b:Bok)(id:Int):Int:=match b.pools.findIdx? fun p=>p.id==id with|some i=>i|none=> -1
theorem On {b:Bok}{id:Int}{k:Nat}{p:Pol}(hp:b.pools[k]? =some p)(hid:p.id=id)(cf:∀j q,j < k→b.pools[j]? =some q→q.id≠id):Pq b id=k:=by
 unfold Pq;have:b.pools.findIdx? (fun p=>p.id==id)=some k:=by
  obtain⟨hk,he⟩:=Xn.1 hp;rw[XH];refine⟨hk,by rw[he];simpa using hid,fun j hj=>?_⟩;have:=cf j _ hj (Xk (Nat.lt_trans hj hk));simpa using this
 rw[this]
theorem Cs {b:Bok}{id:Int}(cf:∀j q,j < b.pools.length→b.pools[j]? =some q→q.id≠id):Pq b id= -1:=by
 unfold Pq;have:b.pools.findIdx? (fun p=>p.id==id)=none:=by
  rw[Yn];intro q hq;obtain⟨j,hj,rfl⟩:=X0.1 hq;have:=cf j _ hj (Xk hj);simpa using this
 rw[this]
theorem g8 {b:Bok}{id:Int}{p:Pol}(h:bK b id=some p):∃i:Nat,Pq b id=i∧b.pools[i]? =some p∧p.id=id:=by
 unfold Pq;unfold bK at h;cases hf:b.pools.findIdx? fun p=>p.id==id with
 |none=>
  rw[Yn]at hf;have h1:=hf p (YF h);rw[Zh h]at h1;exact absurd h1 (by simp)
 |some i=>
  obtain⟨hi,hp,cf⟩:=XH.1 hf;refine⟨i,rfl,?_,by simpa using Zh h⟩;obtain⟨-,j,hj,he,AK⟩:=List.find?_eq_some_iff_getElem.1 h;have hij:i=j:=by
   rcases Zb i j with hlt|h|hlt
   ·have:=AK i hlt;rw[hp]at this;exact absurd this (by simp)
   ·exact h
   ·have h1:=cf j hlt;have h2:=Zh h;rw[he]at h1;exact absurd h2 h1
  rw[hij,Xk hj,he]
theorem nd {b:Bok}{id:Int}(h:bK b id=none):Pq b id= -1:=by
 refine Cs fun j q _ hq he=>?_;have:=Yq.1 h q (Xl hq);simp at this;exact this he
theorem g9 (b:Bok)(id:Int)(hl:b.pools.length≤9223372036854775807):af prog 18 [.agg (aS b),.v (.int .i64 id)] (.v (.int .i64 (Pq b id))):=by
 refine pj func18 ntmps18 results18 ?_;refine am ?_<;>intros;refine bg ae ak b.pools (fun k=>∀j (q:Pol),j < k→b.pools[j]? =some q→q.id≠id) (fun k=>[(5,.d (.v (.int .i64 k))),(4,.d (.v (.int .i64 0))),(2,.ptr 0 0),(1,.d (.v (.int .i64 id)))]) (fun _=>[.box 24 ((aS b).map .d)]) (fun j q h=>absurd h (YJ _)) (wf) ?_ ?_
 ·intro k p hp hk hI C hC;have dH:(k:Int) < (b.pools.length:Int):=by omega
  have cM:=wi k (by omega);replace hI:=Xj hI;refine wX ?_ ?_<;>intros
  ·rename_i h1;exact tG (On hp (by simpa using h1) hI.out)
  ·rename_i h1;refine hC _ _ (fun j q hj hq=>?_) (wf);rcases XP j k with h|h
   ·exact hI.out j q h hq
   ·obtain rfl:j=k:=by omega
    rw[hp]at hq;obtain rfl:=XX.inj hq;simpa using h1
 ·intro hI C;replace hI:=Xj hI;refine am ?_<;>intros;exact tG (Cs hI.out)
theorem Ct (b:Bok)(p:Pol)(l:Lse)(hl:b.pools.length≤1000000000)(ht:0≤b.tick∧b.tick≤1073741824):af prog 105 [.agg (aS b),.agg (ah p),.agg (aV l)] (.v (.bool (eL b p l))):=by
 have cY:=g9 b l.owner (by omega);have cj:IntKind.i64.wrap (b.tick+1)=b.tick+1:=by rw[IntKind.wrap_i64];omega
 have cA:IntKind.i64.wrap (b.tick+1024)=b.tick+1024:=by rw[IntKind.wrap_i64];omega
 have hi:=ek l.owner 1 65536;have RR:=ek l.till (b.tick+1) (b.tick+1024);obtain⟨R,hR⟩:∃R,R=eL b p l:=⟨_,rfl⟩;rw[←hR];replace hR:=Xj hR;cases hq:bK b l.owner with
 |none=>
  rw[nd hq]at cY
  replace hq:=Xj hq;have ud:decide ((-1:Int)≥0)=false:=rfl;refine pj func105 ntmps105 results105 ?_;repeat' (first|(with_reducible refine And.intro ?_ ?_)|(with_reducible refine cm (fun _=>?_) (fun _=>?_))|(with_reducible refine aA (fun _=>?_) (fun _=>?_))|(with_reducible refine be (by kernel_rfl))|simp -dsimp only[go_sem,seval, *,aS,aV,ah,aN,cj,cA,ud]|((with_reducible refine bf ?_);simp -dsimp only[go_sem,seval,aS,aV,ah,aN,cj,cA,ud];first|refine aC (by first|assumption|exact hi|exact cY|exact RR) (by first|exact .inl rfl|exact .inr rfl) ?_|(refine aB (by assumption) ?_ ?_ ?_;(solve|(repeat(first|exact ai.refl _|exact ai.nil _|(refine ai.tup ?_)|(refine ai.agg ?_ rfl)|exact trivial|(refine And.intro ?_ ?_))));(solve|exact .inl rfl|exact .inr rfl)))|fail|omega|exact decide_eq_true (by omega)|exact ai.refl _)
  all_goals exact oA (by rw[hR.out];have hq:=hq.out;unfold eL dR;clear hi cY RR hR;grind)
 |some q=>
  obtain⟨i,e1,e2,e3⟩:=g8 hq;rw[e1]at cY
  have hge:((i:Int)≥0):=by omega
  have he:=mw q.root l.at_;replace hq:=Xj hq;replace e1:=Xj e1;replace e3:=Xj e3;refine pj func105 ntmps105 results105 ?_;repeat' (first|(with_reducible refine And.intro ?_ ?_)|(with_reducible refine cm (fun _=>?_) (fun _=>?_))|(with_reducible refine aA (fun _=>?_) (fun _=>?_))|(with_reducible refine be (by kernel_rfl))|simp -dsimp only[go_sem,seval, *,aS,aV,ah,aN,cj,cA,he]|((with_reducible refine bf ?_);simp -dsimp only[go_sem,seval,aS,aV,ah,aN,cj,cA,he];first|refine aC (by first|assumption|exact hi|exact cY|exact RR) (by first|exact .inl rfl|exact .inr rfl) ?_|(refine aB (by assumption) ?_ ?_ ?_;(solve|(repeat(first|exact ai.refl _|exact ai.nil _|(refine ai.tup ?_)|(refine ai.agg ?_ rfl)|exact trivial|(refine And.intro ?_ ?_))));(solve|exact .inl rfl|exact .inr rfl)))|fail|omega|exact decide_eq_true (by omega)|exact ai.refl _)
  all_goals exact oA (by rw[hR.out];have hq:=hq.out;unfold eL dR;clear hi cY RR hR;grind)
theorem Lg (b:Bok)(p:Pol)(hl:b.pools.length≤1000000000)(fu:∀q∈b.pools,q.leases.length≤1000000000):af prog 104 [.agg (aS b),.agg (ah p)] (.v (.bool (jM b b.pools.length p))):=by
 obtain⟨R,hR⟩:∃R,R=jM b b.pools.length p:=⟨_,rfl⟩;rw[←hR];replace hR:=Xj hR;refine pj func104 ntmps104 results104 ?_;refine am ?_<;>intros;refine bL ae ak (fun m e h=>∃(k:Nat) (q:Pol),k≤b.pools.length+1∧(k≤b.pools.length→R=jM b (b.pools.length - k) q)∧(k=b.pools.length+1→R=false)∧m=b.pools.length+1 - k∧e=[(5,.d (.v (.int .i64 k))),(4,.d (.v (.bool false))),(3,.ptr 1 0),(2,.ptr 0 0)]∧
  h=[.box 24 ((aS b).map .d),.box 62 ((ah q).map .d)]) _ _ _ ⟨0,p,by omega,fun _=>hR.out,fun h=>by omega,rfl,rfl,rfl⟩ (wf) ?_
 rintro m e h ⟨k,q,hk,gj,O7,hm,rfl,rfl⟩ C hC;replace hm:=Xj hm;by_cases uw:k≤b.pools.length
 ·have dH:(k:Int)≤(b.pools.length:Int):=by omega
  have cM:=wi k (by omega);have gj:=Xj (gj uw);replace O7:=Xj O7;have cY:=g9 b q.up (by omega);cases hq:bK b q.up with
  |none=>
   rw[nd hq]at cY
   have ud:decide ((-1:Int) < 0)=true:=rfl;replace hq:=Xj hq;refine wX ?_ ?_<;>intros;all_goals exact oA (by
    rename_i h1;cases hn:b.pools.length - k<;>simp_all[jM,hq.out])
  |some u=>
   obtain⟨i,e1,e2,e3⟩:=g8 hq;rw[e1]at cY
   have jU:decide ((i:Int) < 0)=false:=by simp
   have Tn:=fu u (Xl e2);replace hq:=Xj hq;replace e1:=Xj e1;replace e3:=Xj e3;refine wX ?_ ?_<;>intros
   ·exact oA (by
     rename_i h1;cases hn:b.pools.length - k<;>simp_all[jM])
   ·rename_i h1;refine bg ae ak u.leases (fun _=>True) (fun j=>[(8,.d (.v (.int .i64 j))),(7,.d (.v (.bool ((u.leases.take j).any (lm q.id))))),(6,.d (.v (.int .i64 i))),(5,.d (.v (.int .i64 k))),(4,.d (.v (.bool false))),(3,.ptr 1 0),(2,.ptr 0 0)])
     (fun _=>[.box 24 ((aS b).map .d),.box 62 ((ah q).map .d)]) trivial (wf) ?_ ?_
    ·intro j l pf hj _ C hC;have ic:(j:Int) < (u.leases.length:Int):=by omega
     have j6:=wi j (by omega);have dP:(u.leases.take (j+1)).any (lm q.id)=((u.leases.take j).any (lm q.id)||lm q.id l):=by rw[ag pf];simp
     replace dP:=Xj dP;refine zO ?_ ?_ ?_<;>intros;all_goals
      refine hC _ _ trivial (wf (he:=⟨rfl,?_,rfl,rfl,rfl,rfl,rfl,trivial⟩));refine congrArg (fun x=>PV.d (D.v (Value.bool x))) ?_;rw[dP.out];clear dP hC;generalize (u.leases.take j).any (lm q.id)=A at*;unfold lm;simp_all
    ·intro _ C;(try rw[Xt])
     refine wX ?_ ?_<;>intros
     ·rename_i h2 jz h3 h4;refine hC _ _ _ _ _ ?_ ⟨k+1,u,by omega,fun hlt=>?_,fun he=>?_,rfl,rfl,rfl⟩ (wf)
      ·have:=hm.out;omega
      ·rw[gj.out];obtain⟨n,hn⟩:∃n,b.pools.length - k=n+1:=⟨b.pools.length - k - 1,by omega⟩;rw[hn,show b.pools.length - (k+1)=n by omega];simp only[jM,hq.out,‹(q.up==0)=false›,‹u.leases.any (lm q.id)=true›,Yr,ZT]
      ·rw[gj.out,show b.pools.length - k=0 by omega];simp_all[jM]
     ·rename_i h2 jz h3 h4;refine oA ?_;cases hn:b.pools.length - k<;>simp only[jM,hq.out,‹(q.up==0)=false›,‹u.leases.any (lm q.id)=false›,Bool.false_and,ZT]
 ·obtain rfl:k=b.pools.length+1:=by omega
  have dH:¬(((b.pools.length+1:Nat):Int)≤(b.pools.length:Int)):=by omega
  have hr:=Xj (O7 rfl);clear gj O7;replace dH:decide (((b.pools.length+1:Nat):Int)≤(b.pools.length:Int))=false:=by simpa using dH
  refine am ?_<;>intros;exact oA hr.out
def js (b:Bok)(k:Nat):List Pfx:=((b.pools.take k).filter (fun p=>p.up==0)).map (·.root)
theorem Cu {b:Bok}{k:Nat}{p:Pol}(hp:b.pools[k]? =some p):js b (k+1)=if p.up==0 then js b k++[p.root]else js b k:=by
 unfold js;rw[ag hp,YW,Xo];cases h:p.up==0<;>simp[h]
theorem wc {b:Bok}{k:Nat}{r:Pfx}(hk:k≤b.pools.length):(js b k).any r.meets=true↔∃(j:Nat) (q:Pol),j < k∧b.pools[j]? =some q∧(q.up==0)=true∧r.meets q.root=true:=by
 unfold js;rw[List.any_map,List.any_filter,XU];constructor
 ·rintro⟨q,hq,h⟩;obtain⟨j,hj,rfl⟩:=X0.1 hq;simp only[Xp]at hj;simp only[Xy,Function.comp]at h;exact⟨j,_,by omega,Xk (by omega),by simpa using h.1,by simpa using h.2⟩
 ·rintro⟨j,q,hj,hq,h1,h2⟩;refine⟨q,Xl (i:=j) ?_,by simp only[Xy,Function.comp];exact⟨h1,h2⟩⟩;rw[XS hj,hq]
theorem Cv {b:Bok}{k:Nat}{p:Pol}(hp:b.pools[k]? =some p):dx b (b.pools.drop k) (js b k)=((jM b b.pools.length p&&p.leases.all (eL b p))&&(!((p.up==0)&&(js b k).any p.root.meets)&&dx b (b.pools.drop (k+1)) (js b (k+1)))):=by
 rw[jo hp,Cu hp];simp only[dx];cases h:p.up==0<;>simp
theorem gB (b:Bok)(hz:∀p∈b.pools,p.leases.length≤3518437208882):af prog 37 [.agg (aS b)] (.v (.int .i64 (a9 b))):=by
 have O3:=ek b.tick 0 1073741824;by_cases h8:b.pools.length>8
 ·have UR:decide ((b.pools.length:Int)>8)=true:=by simp;omega
  have hr:a9 b=2:=by simp[a9,h8]
  rw[hr];refine pj func37 ntmps37 results37 ?_;exact aZ
 ·have UR:decide ((b.pools.length:Int)>8)=false:=by simp;omega
  by_cases gU:b.tick < 0∨b.tick>1073741824
  ·have hr:a9 b=1:=by simp[a9,h8,gU]
   have hd:(decide (0≤b.tick)&&decide (b.tick≤1073741824))=false:=by
    rcases gU with h|h
    ·simp;omega
    ·simp;omega
   rw[hr];rw[hd]at O3;replace hr:=Xj hr;refine pj func37 ntmps37 results37 ?_;exact aZ
  ·have ht:0≤b.tick∧b.tick≤1073741824:=by omega
   have hd:(decide (0≤b.tick)&&decide (b.tick≤1073741824))=true:=by simp;omega
   rw[hd]at O3;have hr:a9 b=if d8 0 b.pools&&dx b b.pools []then 0 else 1:=by simp only[a9,h8,gU,if_false]
   rw[hr];replace hr:=Xj hr;replace ht:=Xj ht;replace hd:=Xj hd;refine pj func37 ntmps37 results37 ?_;refine am ?_<;>intros;refine bL ae ak (fun m e h=>∃(k:Nat) (last:Int),k≤b.pools.length∧d8 0 b.pools=d8 last (b.pools.drop k)∧(k=0→last=0)∧(∀j,k=j+1→∃q,b.pools[j]? =some q∧q.id=last)∧m=b.pools.length - k∧e=[(3,.d (.v (.int .i64 k))),(2,.d (.v (.int .i64 0))),(1,.ptr 0 0)]∧
    h=[.box 24 ((aS b).map .d)]) _ _ _ ⟨0,0,XD _,rfl,fun _=>rfl,fun j h=>by omega,rfl,rfl,rfl⟩ (wf) ?_
   rintro m e h ⟨k,last,hk,gj,pG,Q0,hm,rfl,rfl⟩ C hC;by_cases hlt:k < b.pools.length
   ·have en:(k:Int) < (b.pools.length:Int):=by omega
    have cM:=wi k (by omega);obtain⟨p,hp⟩:∃p,b.pools[k]? =some p:=⟨_,Xk hlt⟩;have oL:p∈b.pools:=Xl hp;rw[jo hp]at gj;simp only[d8]at gj;have hi:=ek p.id 1 65536;have gU:=yQ p (hz p oL);have OZ:=zY p.root (dt p);unfold dt at OZ;have wS:=qd p.rule p.root;replace gj:=Xj gj;replace hm:=Xj hm;rcases ZJ k with hk0|hk0
    ·have Vi:decide ((k:Int)>0)=false:=by simp;omega
     have pG:=Xj (pG hk0);replace hk0:=Xj hk0;clear Q0;refine RE ?_ ?_ ?_ ?_<;>intros;all_goals have pG:=pG.out
     all_goals first
      |(refine hC _ _ _ _ _ ?_ ⟨k+1,p.id,hlt,?_,fun h=>by omega,fun j h=>⟨p,by rw[show j=k by omega];exact hp,rfl⟩,rfl,rfl,rfl⟩ (wf);(have:=hm.out;omega);(rw[gj.out];clear hC hi gU OZ wS hz gj hm hr ht O3;unfold dR dt;grind))
      |exact tG (by
       have hf:d8 0 b.pools=false:=by
        rw[gj.out];clear hC hi gU OZ wS hz gj hm hr ht O3;unfold dR dt;grind
       rw[hf];rfl)
    ·have Vi:decide ((k:Int)>0)=true:=by simp;omega
     obtain⟨j,hj⟩:∃j,k=j+1:=⟨k - 1,by omega⟩;obtain⟨q,hq,sS⟩:=Q0 j hj;have j6:IntKind.i64.wrap ((k:Int) - 1)=(j:Int):=by rw[IntKind.wrap_i64];omega
     replace sS:=Xj sS;replace hj:=Xj hj;replace hk0:=Xj hk0;clear pG Q0;repeat' (first|(with_reducible refine And.intro ?_ ?_)|(with_reducible refine cm (fun _=>?_) (fun _=>?_))|(with_reducible refine aA (fun _=>?_) (fun _=>?_))|(with_reducible refine be (by kernel_rfl))|simp -dsimp only[go_sem,seval, *,aS,ah,en,cM,hp,Vi,j6,hq,undef]|((with_reducible refine bf ?_);simp -dsimp only[go_sem,seval,aS,ah,en,cM,hp,Vi,j6,hq,undef];first|refine aC (by first|assumption|exact hi|exact gU|exact OZ|exact wS) (by first|exact .inl rfl|exact .inr rfl) ?_|(refine aB (by assumption) ?_ ?_ ?_;(solve|(repeat(first|exact ai.refl _|exact ai.nil _|(refine ai.tup ?_)|(refine ai.agg ?_ rfl)|exact trivial|(refine And.intro ?_ ?_))));(solve|exact .inl rfl|exact .inr rfl)))|fail|omega|exact decide_eq_true (by omega)|exact ai.refl _)
     all_goals have sS:=sS.out
     all_goals first
      |(refine hC _ _ _ _ _ ?_ ⟨k+1,p.id,hlt,?_,fun h=>by omega,fun j h=>⟨p,by rw[show j=k by omega];exact hp,rfl⟩,rfl,rfl,rfl⟩ (wf);(have:=hm.out;omega);(rw[gj.out];clear hC hi gU OZ wS hz gj hm hr ht O3;unfold dR dt;grind))
      |exact tG (by
       have hf:d8 0 b.pools=false:=by
        rw[gj.out];clear hC hi gU OZ wS hz gj hm hr ht O3;unfold dR dt;grind
       rw[hf];rfl)
   ·obtain rfl:k=b.pools.length:=by omega
    rw[Y7]at gj;have hf:d8 0 b.pools=true:=by rw[gj];rfl
    obtain⟨Mt,-⟩:=kl _ _ hf;have fR:=lF _ _ hf;have nG:∀p∈b.pools,p.leases.length≤32:=fun p hp=>by
     have:=(fR p hp).2.1;unfold gY at this;split at this
     ·cases this
     ·rename_i h;simpa[dt]using h
    rw[hf];replace hf:=Xj hf;replace fR:=Xj fR;clear gj hm pG Q0 hC;refine am ?_<;>intros;refine qK ae ak b.pools.length (fun k=>dx b b.pools []=dx b (b.pools.drop k) (js b k)) (fun k=>[(5,.d (.v (.int .i64 k))),(2,.d (.v (.int .i64 0))),(1,.ptr 0 0)]) (fun _=>[.box 24 ((aS b).map .d)]) rfl (wf) ?_ ?_
    ·intro k hlt hI C hC;have en:(k:Int) < (b.pools.length:Int):=by omega
     have cM:=wi k (by omega);obtain⟨p,hp⟩:∃p,b.pools[k]? =some p:=⟨_,Xk hlt⟩;have oL:p∈b.pools:=Xl hp;rw[Cv hp]at hI;have gj:=Lg b p (by omega) (fun q hq=>by have:=nG q hq;omega);have iG:=nG p oL;replace hI:=Xj hI;refine wX ?_ ?_<;>intros
     ·rename_i hu;refine bg ae ak p.leases (fun j=>∀i (l:Lse),i < j→p.leases[i]? =some l→eL b p l=true) (fun j=>[(7,.d (.v (.int .i64 j))),(6,.ptr 1 0),(5,.d (.v (.int .i64 k))),(2,.d (.v (.int .i64 0))),(1,.ptr 0 0)]) (fun _=>[.box 24 ((aS b).map .d),.box 62 ((ah p).map .d)]) (fun i l h=>absurd h (YJ _)) (wf) ?_ ?_
      ·intro j l pf hj Ru C hC;have ic:(j:Int) < (p.leases.length:Int):=by omega
       have j6:=wi j (by omega);have hlf:=Ct b p l (by omega) ht.out;replace Ru:=Xj Ru;refine wX ?_ ?_<;>intros
       ·rename_i iZ;refine hC _ _ (fun i l' hi hl'=>?_) (wf);rcases XP i j with h|h
        ·exact Ru.out i l' h hl'
        ·obtain rfl:i=j:=by omega
         rw[pf]at hl';obtain rfl:=XX.inj hl';exact iZ
       ·rename_i iZ;refine tG ?_;have bP:p.leases.all (eL b p)=false:=by
         rw[Y2];exact⟨l,Xl pf,by rw[iZ];simp⟩
        rw[hI.out,bP];simp
      ·intro Ru C1;have bP:p.leases.all (eL b p)=true:=by
        rw[XE];intro l hl;obtain⟨i,hi,rfl⟩:=X0.1 hl;exact Ru i _ hi (Xk hi)
       replace Ru:=Xj Ru;replace bP:=Xj bP;refine am ?_<;>intros;refine qK ae ak k (fun j=>∀i (q:Pol),i < j→b.pools[i]? =some q→((p.up==0)&&(q.up==0)&&p.root.meets q.root)=false) (fun j=>[(8,.d (.v (.int .i64 j))),(6,.ptr 1 0),(5,.d (.v (.int .i64 k))),(2,.d (.v (.int .i64 0))),(1,.ptr 0 0)]) (fun _=>[.box 24 ((aS b).map .d),.box 62 ((ah p).map .d)]) (fun i l h=>absurd h (YJ _)) (wf) ?_ ?_
       ·intro j hj Rv C hC;have ic:(j:Int) < (k:Int):=by omega
        have j6:=wi j (by omega);obtain⟨q,hq⟩:∃q,b.pools[j]? =some q:=⟨_,Xk (by omega)⟩;have nH:=pW p.root q.root;rw[eZ]at nH;replace Rv:=Xj Rv;have key:∀t,((p.up==0)&&(q.up==0)&&p.root.meets q.root)=t→t=false→∀i (q:Pol),i < j+1→b.pools[i]? =some q→((p.up==0)&&(q.up==0)&&p.root.meets q.root)=false:=by
         intro t h1 h2 i q' hi hq';rcases XP i j with h|h
         ·exact Rv.out i q' h hq'
         ·obtain rfl:i=j:=by omega
          rw[hq]at hq';obtain rfl:=XX.inj hq';rw[h1,h2]
        have bad:((p.up==0)&&(q.up==0)&&p.root.meets q.root)=true→dx b b.pools []=false:=fun h=>by
         simp only[Xy]at h;have:(js b k).any p.root.meets=true:=(wc (by omega)).2 ⟨j,q,hj,hq,h.1.2,h.2⟩;rw[hI.out,this,h.1.1];simp
        replace key:=Xj key;replace bad:=Xj bad;refine RE ?_ ?_ ?_ ?_<;>intros;all_goals first
         |(refine hC _ _ (key.out _ ?_ rfl) (wf);clear hC nH;grind)
         |exact tG (by rw[bad.out (by clear hC nH;grind)];simp)
       ·intro Rv C1;have cf:((p.up==0)&&(js b k).any p.root.meets)=false:=by
         cases h:p.up==0 with
         |false=>rfl
         |true=>
          cases h2:(js b k).any p.root.meets with
          |false=>rfl
          |true=>
           obtain⟨i,q,hi,hq,h3,h4⟩:=(wc (by omega)).1 h2;have:=Rv i q hi hq;rw[h,h3,h4]at this;exact absurd this (by simp)
        replace Rv:=Xj Rv;replace cf:=Xj cf;refine am ?_<;>intros;refine hC _ _ ?_ (wf);rw[hI.out,hu,bP.out,cf.out];rfl
     ·rename_i hu;refine tG ?_;rw[hI.out,hu];simp
    ·intro hI C;replace hI:=Xj hI;refine am ?_<;>intros;refine tG ?_;rw[hI.out,Y7];rfl
theorem iE (b:Bok)(h8:b.pools.length≤8)(fu:∀p∈b.pools,p.leases.length≤32):
 MSpec prog 20 [.d (.agg (aS b))] [] (.agg [.d (.v (.int .i64 b.tick)),.own 3 b.pools.length]) [.gone,.gone,.gone,.row 62 9 b.pools.length (ab (b.pools.map ah))]:=by
 refine mj func20 ntmps20 results20 ?_;refine am ?_<;>intros;refine bg ae ak b.pools (fun _=>True) (fun k=>[(4,.d (.v (.int .i64 k))),(3,.ptr 2 0),(2,.ptr 1 0),(1,.ptr 0 0)])
  (fun k=>[.box 24 ((aS b).map .d),.box 24 [.d (.v (.int .i64 0)),.d (.v (.slice none 0 0))],.box 24 [.d (.v (.int .i64 b.tick)),.own 3 k],.row 62 9 k (ab ((b.pools.take k).map ah))]) trivial ?_ ?_ ?_
 ·refine(au (by simp) 2 24 [.d (.v (.int .i64 b.tick)),.d (.v (.slice none 0 0))] 1 62 9 rfl rfl rfl).trans ?_;exact wf
 ·intro k p hp hk _ C hC;have dH:(k:Int) < (b.pools.length:Int):=by omega
  have cM:=wi k (by omega);have iG:=fu p (Xl hp);have i7:k+1≤100:=by omega
  have hlt:(Yf k b.pools).length=k:=by rw[Xp];omega
  refine am ?_<;>intros;refine hC _ _ trivial ((ap 5 1 68 5 (p.leases.map aV) rfl).trans ?_);simp only[iu,fz,gr,f7,gV,f5,aR,bR,bW,Xm,Xu,XM,XL,reduceIte,and_true,true_and,and_self,and_false,false_and,XG,XW,reduceCtorEq];exact wf (hh:=(by rw[ag hp,Xo,Xm,Xu,←aI];rfl))
 ·intro _ C;refine am ?_<;>intros;(try rw[Xt])
  refine(aL 0 (by simp)).trans ?_;refine(aL 1 (by simp[bw])).trans ?_;exact(aL 2 (by simp[bw])).trans (bo rfl rfl)
theorem Gd {α:Type}{key:α→Int}{t:Int}{l:List α}{k:Nat}{q:α}(hk:k < i8 key t l)(hq:l[k]? =some q):key q < t:=by
 obtain⟨hl,rfl⟩:=Xn.1 hq;have:=List.not_of_lt_findIdx hk;simp at this;omega
theorem Ge {α:Type}{key:α→Int}{t:Int}{l:List α}{q:α}(hq:l[i8 key t l]? =some q):t≤key q:=by
 obtain⟨hl,rfl⟩:=Xn.1 hq;have:=List.findIdx_getElem (xs:=l) (p:=fun x=>decide (t≤key x)) (w:=hl);exact of_decide_eq_true this
theorem H5 (b:Bok)(p:Pol)(h8:b.pools.length≤8)(cf:bK b p.id=none):af prog 222 [.agg (aS b),.agg (ah p)] (.agg (aS ⟨b.tick,kY p b.pools⟩)):=by
 obtain⟨n0,pb⟩:∃n0,n0=i8 (fun x:Pol=>x.id) p.id b.pools:=⟨_,rfl⟩;have Vj:n0≤b.pools.length:=by rw[pb];exact oX _ _ _
 have iZ:∀k q,k < n0→b.pools[k]? =some q→q.id < p.id:=fun k q hk hq=>Gd (key:=fun x:Pol=>x.id) (by rw[←pb];exact hk) hq;have jX:∀q,b.pools[n0]? =some q→p.id < q.id:=fun q hq=>by
  have h1:=Ge (key:=fun x:Pol=>x.id) (t:=p.id) (l:=b.pools) (q:=q) (by rw[←pb];exact hq);have h2:=Yq.1 cf q (Xl hq);simp at h1 h2;omega
 have fq:kY p b.pools=b.pools.take n0++p::b.pools.drop n0:=by unfold kY;rw[←pb]
 replace pb:=Xj pb;replace fq:=Xj fq;refine pj func222 ntmps222 results222 ?_;refine am ?_<;>intros;refine bL ae ak (fun m e h=>∃(k:Nat) (out:List Pol) (f:Bool),k≤b.pools.length∧out.length≤k+1∧((f=false∧k≤n0∧out=b.pools.take k)∨(f=true∧n0 < k∧out++b.pools.drop k=kY p b.pools))∧m=b.pools.length - k∧
  e=[(7,.d (.v (.int .i64 k))),(6,.d (.v (.bool f))),(5,.ptr 3 0),(4,.ptr 2 0),(3,.ptr 1 0),(2,.ptr 0 0)]∧
  h=[.box 24 ((aS b).map .d),.box 62 ((ah p).map .d),.box 24 [.d (.v (.int .i64 0)),.d (.v (.slice none 0 0))],.box 24 [.d (.v (.int .i64 b.tick)),.own 4 out.length],.row 62 9 out.length (ab (out.map ah))]) _ _ _ ⟨0,[],false,XD _,XD _,.inl ⟨rfl,XD _,rfl⟩,rfl,rfl,rfl⟩ ?_ ?_
 ·refine(au (by simp) 3 24 [.d (.v (.int .i64 b.tick)),.d (.v (.slice none 0 0))] 1 62 9 rfl rfl rfl).trans ?_;exact wf
 ·rintro m e h ⟨k,out,f,hk,nL,fl,hm,rfl,rfl⟩ C hC;replace hm:=Xj hm;replace fl:=Xj fl;have i7:out.length+1+1≤100:=by omega
  have jd:out.length+1≤100:=by omega
  by_cases hlt:k < b.pools.length
  ·have dH:(k:Int) < (b.pools.length:Int):=by omega
   have cM:=wi k (by omega);obtain⟨q,hq⟩:∃q,b.pools[k]? =some q:=⟨_,Xk hlt⟩;have DJ:=Xj (jo hq);have iZ:=Xj (fun h=>iZ k q h hq);have jX:=Xj (fun h:k=n0=>jX q (by rw[←h];exact hq));refine zO ?_ ?_ ?_<;>intros
   ·refine hC _ _ _ _ _ ?_ ⟨k+1,out++[q],true,by omega,by simp;omega,.inr ⟨rfl,?_,?_⟩,rfl,rfl,rfl⟩ (wf (hh:=(by simp only[aS,ah,Xo,Xm,Xu,XY,XA,XZ,X3];rfl)))
    ·have:=hm.out;omega
    ·have:=fl.out;grind
    ·have:=fl.out;have:=DJ.out;grind
   ·refine hC _ _ _ _ _ ?_ ⟨k+1,out++[p]++[q],true,by omega,by have:=fl.out;simp;grind,.inr ⟨rfl,?_,?_⟩,rfl,rfl,rfl⟩ (wf (hh:=(by simp only[aS,ah,Xo,Xm,Xu,XY,XA,XZ,X3];rfl)))
    ·have:=hm.out;omega
    ·have:=fl.out;grind
    ·have h1:=fl.out;have:=DJ.out;have hle:k≤n0∧out=b.pools.take k:=by grind
     have GH:k=n0:=by
      rcases XP k n0 with h|h
      ·have:=iZ.out h;have h2:=of_decide_eq_true ‹decide (q.id>p.id)=true›;omega
      ·omega
     rw[fq.out,hle.2,←GH,this];simp
   ·refine hC _ _ _ _ _ ?_ ⟨k+1,out++[q],false,by omega,by simp;omega,.inl ⟨rfl,?_,?_⟩,rfl,rfl,rfl⟩ (wf (hh:=(by simp only[aS,ah,Xo,Xm,Xu,XY,XA,XZ,X3];rfl)))
    ·have:=hm.out;omega
    ·have h1:=fl.out;rcases XP k n0 with h|h
     ·exact h
     ·have GH:k=n0:=by grind
      have:=jX.out GH;rename_i h2;simp at h2;omega
    ·have h1:=fl.out;rw[ag hq];grind
  ·obtain rfl:k=b.pools.length:=by omega
   refine wX ?_ ?_<;>intros
   ·rw[show kY p b.pools=out from by have h1:=fl.out;grind];exact ai.refl _
   ·rw[show kY p b.pools=out++[p] from by
     have h1:=fl.out;rw[fq.out];have GH:n0=b.pools.length:=by grind
     rw[GH];grind]
    rw[Xo];exact ai.refl _
theorem yR (b:Bok)(p:Pol)(g:Nat)(d:D)(h8:b.pools.length≤8)(cf:bK b p.id=none)(hd:ai d (.agg (ah p))):
 MSpec prog 222 [.agg [.d (.v (.int .i64 b.tick)),.own 0 g],.d d] [.row 62 9 g (ab (b.pools.map ah))] (.d (.agg (aS ⟨b.tick,kY p b.pools⟩))) [.gone]:=
 (vg (H5 b p h8 cf) (args:=[.agg [.d (.v (.int .i64 b.tick)),.own 0 g],.d (.agg (ah p))]) (h0:=[.row 62 9 g (ab (b.pools.map ah))]) (by simp[an,aq]) (by simp[aH,aQ,az]) (by simp[vw,cJ,bp,aG,eG,aS]) (by simp[tc,jh,cT,aG,nU])).lep ⟨.inl rfl,.inr ⟨_,_,rfl,rfl,hd⟩,trivial⟩ (by simp[an,aq])
theorem Bok.zero_le:ai (.agg [.v (.int .i64 0),.v (.slice none 0 0)]) (.agg (aS Bok.zero)):=dg
theorem Lh (b:Bok)(id:Int)(root:Pfx)(r:Rul)(hz:∀p∈b.pools,p.leases.length≤3518437208882):af prog 160 [.agg (aS b),.v (.int .i64 id),.agg (aN root),.agg (pi r)] (.tup [.agg (aS (fO b id root r).1),.v (.int .i64 (fO b id root r).2)]):=by
 obtain⟨R,hR⟩:∃R,R=fO b id root r:=⟨_,rfl⟩;rw[←hR];replace hR:=Xj hR;have bc:=gB b hz;by_cases hc:a9 b=0
 ·have cn:=dF hc;have h8:=cn.n8;have hid:=ek id 1 65536;have Dv:=vq root;have wS:=qd r root;have cY:=g9 b id (by omega);have gk:=iE b cn.n8 cn.l32;have aP:R=if ns b id root r≠0 then (Bok.zero,ns b id root r)else (⟨b.tick,kY ⟨id,0,root,r,[]⟩ b.pools⟩,0):=by rw[hR.out];unfold fO;rw[if_neg (by simpa using hc)]
  unfold ns dR at aP;have pn:bE root.at_ root.len=(chk root.at_ root.len==0):=rfl;replace pn:=Xj pn;replace aP:=Xj aP;rw[hc]at bc;replace hc:=Xj hc;clear hR;cases hq:bK b id with
  |none=>
   have GE:=yR b ⟨id,0,root,r,[]⟩ b.pools.length (.agg [.v (.int .i64 id),.v (.int .i64 0),.v (.int .i64 root.at_),.v (.int .i64 root.len),.v (.int .i64 r.min),.v (.int .i64 r.max),.v (.int .i64 r.usual),.v (.int .i64 r.cool),.v (.slice none 0 0)]) cn.n8 hq dg;rw[nd hq]at cY
   have ud:decide ((-1:Int)≥0)=false:=rfl;replace hq:=Xj hq;clear cn;refine pj func160 ntmps160 results160 ?_;refine zO ?_ ?_ ?_<;>intros
   ·refine bg ae ak b.pools (fun k=>∀j (q:Pol),j < k→b.pools[j]? =some q→((q.up==0)&&q.root.meets root)=false) (fun k=>[(11,.d (.v (.int .i64 k))),(9,.d (.v (.int .i64 0))),(8,.ptr 3 0),(7,.ptr 2 0),(6,.ptr 1 0),(4,.ptr 0 0),(1,.d (.v (.int .i64 id)))])
     (fun _=>[.box 24 ((aS b).map .d),.box 32 ((aN root).map .d),.box 34 ((pi r).map .d),.box 24 [.d (.v (.int .i64 0)),.d (.v (.slice none 0 0))]]) (fun j q h=>absurd h (YJ _)) (wf) ?_ ?_
    ·intro k q Wt hk hI C hC;have dH:(k:Int) < (b.pools.length:Int):=by omega
     have cM:=wi k (by omega);have nH:=pW q.root root;rw[eZ]at nH;have key:∀t,((q.up==0)&&q.root.meets root)=t→t=false→∀j (q:Pol),j < k+1→b.pools[j]? =some q→((q.up==0)&&q.root.meets root)=false:=by
      intro t h1 h2 j q' hj hq';rcases XP j k with h|h
      ·exact hI j q' h hq'
      ·obtain rfl:j=k:=by omega
       rw[Wt]at hq';obtain rfl:=XX.inj hq';rw[h1,h2]
     have bad:((q.up==0)&&q.root.meets root)=true→(b.pools.any fun p=>(p.up==0)&&p.root.meets root)=true:=fun h=>XU.2 ⟨q,Xl Wt,h⟩;replace key:=Xj key;replace bad:=Xj bad;replace hI:=Xj hI;refine zO ?_ ?_ ?_<;>intros;all_goals clear hz bc hid Dv wS cY gk GE nH
     all_goals first
      |(refine hC _ _ (key.out _ ?_ rfl) (wf);clear hC;grind)
      |(have hb:=bad.out (by clear hC;grind);clear hC;have hq:=hq.out;have pn:=pn.out;(rw[show R=(Bok.zero,6) from (by rw[aP.out];grind)];(try simp only[Xo,Xm]);exact dg))
    ·intro hI C1;have im:(b.pools.any fun p=>(p.up==0)&&p.root.meets root)=false:=by
      rw[Yh];intro q hq;obtain⟨j,hj,rfl⟩:=X0.1 hq;rw[hI j _ hj (Xk hj)];simp
     replace hI:=Xj hI;replace im:=Xj im;have z1z:=Ln.mk (ls:=[]) (gk);have z2z:=Ln.mk (ls:=[7]) (GE);refine zO ?_ ?_ ?_<;>intros;all_goals clear hz bc hid Dv wS cY gk GE
     all_goals have hq:=hq.out
     all_goals have pn:=pn.out
     all_goals have im:=im.out
     all_goals first
      |(rw[show R=(Bok.zero,1) from (by rw[aP.out];grind)];(try simp only[Xo,Xm]);exact dg)
      |(rw[show R=(Bok.zero,2) from (by rw[aP.out];grind)];(try simp only[Xo,Xm]);exact dg)
      |(rw[show R=(⟨b.tick,kY ⟨id,0,root,r,[]⟩ b.pools⟩,0) from (by rw[aP.out];grind)];(try simp only[Xo,Xm]);exact dg)
   all_goals(clear hz bc hid Dv wS cY gk GE;have pn:=pn.out;(rw[show R=(Bok.zero,3) from (by rw[aP.out];grind)];(try simp only[Xo,Xm]);exact dg))
  |some q=>
   obtain⟨i,e1,e2,e3⟩:=g8 hq;rw[e1]at cY
   have jU:decide ((i:Int)≥0)=true:=by simp
   clear cn e1 e2 e3;replace hq:=Xj hq;refine pj func160 ntmps160 results160 ?_;refine zO ?_ ?_ ?_<;>intros;all_goals clear hz bc hid Dv wS cY gk
   all_goals have pn:=pn.out
   all_goals have hq:=hq.out
   all_goals first
    |(rw[show R=(Bok.zero,3) from (by rw[aP.out];grind)];(try simp only[Xo,Xm]);exact dg)
    |(rw[show R=(Bok.zero,6) from (by rw[aP.out];grind)];(try simp only[Xo,Xm]);exact dg)
 ·have h1:(a9 b !=0)=true:=by simpa using hc
  have hr:R=(Bok.zero,a9 b):=by rw[hR.out];unfold fO;rw[if_pos hc]
  rw[hr];replace hr:=Xj hr;clear hR;refine pj func160 ntmps160 results160 ?_;refine am ?_<;>intros;exact dg
theorem Li {root:Pfx}{us:List Pfx}{size:Int}(h0:gY root us=0)(h1:root.len≤size∧size≤16):ll root us size=((nC root us size).1,(nC root us size).2,0):=by
 unfold ll nC;rw[if_pos h0,if_neg (by omega)];cases(iR root us).find? (fun q=>decide (q.len≤size))<;>rfl
theorem wd (p:Pol)(l:Lse)(fu:p.leases.length≤32)(cf:∀x∈p.leases,x.at_.at_≠l.at_.at_):af prog 167 [.agg (ah p),.agg (aV l)] (.agg (ah {p with leases:=gZ l p.leases})):=by
 obtain⟨n0,pb⟩:∃n0,n0=i8 (fun x:Lse=>x.at_.at_) l.at_.at_ p.leases:=⟨_,rfl⟩;have Vj:n0≤p.leases.length:=by rw[pb];exact oX _ _ _
 have iZ:∀k q,k < n0→p.leases[k]? =some q→q.at_.at_ < l.at_.at_:=fun k q hk hq=>Gd (key:=fun x:Lse=>x.at_.at_) (by rw[←pb];exact hk) hq;have jX:∀q,p.leases[n0]? =some q→l.at_.at_ < q.at_.at_:=fun q hq=>by
  have h1:=Ge (key:=fun x:Lse=>x.at_.at_) (t:=l.at_.at_) (l:=p.leases) (q:=q) (by rw[←pb];exact hq);have h2:=cf q (Xl hq);have h1:l.at_.at_≤q.at_.at_:=h1;omega
 have fq:gZ l p.leases=p.leases.take n0++l::p.leases.drop n0:=by unfold gZ;rw[←pb]
 replace pb:=Xj pb;replace fq:=Xj fq;refine pj func167 ntmps167 results167 ?_;refine am ?_<;>intros;refine bL ae ak (fun m e h=>∃(k:Nat) (out:List Lse) (f:Bool),k≤p.leases.length∧out.length≤k+1∧((f=false∧k≤n0∧out=p.leases.take k)∨(f=true∧n0 < k∧out++p.leases.drop k=gZ l p.leases))∧m=p.leases.length - k∧
  e=[(7,.d (.v (.int .i64 k))),(6,.d (.v (.bool f))),(5,.own 3 out.length),(4,.ptr 2 0),(3,.ptr 1 0),(2,.ptr 0 0)]∧
  h=[.box 62 ((ah p).map .d),.box 68 ((aV l).map .d),.box 62 [.d (.v (.int .i64 0)),.d (.v (.int .i64 0)),.d (.v (.int .i64 0)),.d (.v (.int .i64 0)),.d (.v (.int .i64 0)),.d (.v (.int .i64 0)),.d (.v (.int .i64 0)),.d (.v (.int .i64 0)),.d (.v (.slice none 0 0))],.row 68 5 out.length (ab (out.map aV))]) _ _ _ ⟨0,[],false,XD _,XD _,.inl ⟨rfl,XD _,rfl⟩,rfl,rfl,rfl⟩ ?_ ?_
 ·refine(cS (by simp) 5 68 5 rfl).trans ?_;exact wf
 ·rintro m e h ⟨k,out,f,hk,nL,fl,hm,rfl,rfl⟩ C hC;replace hm:=Xj hm;replace fl:=Xj fl;have i7:out.length+1+1≤100:=by omega
  have jd:out.length+1≤100:=by omega
  by_cases hlt:k < p.leases.length
  ·have dH:(k:Int) < (p.leases.length:Int):=by omega
   have cM:=wi k (by omega);obtain⟨q,hq⟩:∃q,p.leases[k]? =some q:=⟨_,Xk hlt⟩;have DJ:=Xj (jo hq);have iZ:=Xj (fun h=>iZ k q h hq);have jX:=Xj (fun h:k=n0=>jX q (by rw[←h];exact hq));refine zO ?_ ?_ ?_<;>intros
   ·refine hC _ _ _ _ _ ?_ ⟨k+1,out++[q],true,by omega,by simp;omega,.inr ⟨rfl,?_,?_⟩,rfl,rfl,rfl⟩ (wf (hh:=(by simp only[ah,aV,Xo,Xm,Xu,XY,XA,XZ,X3];rfl)) (he:=(by(repeat' (first|exact trivial|(refine⟨?_,?_⟩)|rfl|(simp only[XY,XA,XZ];rfl))))))
    ·have:=hm.out;omega
    ·have:=fl.out;grind
    ·have:=fl.out;have:=DJ.out;grind
   ·refine hC _ _ _ _ _ ?_ ⟨k+1,out++[l]++[q],true,by omega,by have:=fl.out;simp;grind,.inr ⟨rfl,?_,?_⟩,rfl,rfl,rfl⟩ (wf (hh:=(by simp only[ah,aV,Xo,Xm,Xu,XY,XA,XZ,X3];rfl)) (he:=(by(repeat' (first|exact trivial|(refine⟨?_,?_⟩)|rfl|(simp only[XY,XA,XZ];rfl))))))
    ·have:=hm.out;omega
    ·have:=fl.out;grind
    ·have h1:=fl.out;have:=DJ.out;have hle:k≤n0∧out=p.leases.take k:=by grind
     have GH:k=n0:=by
      rcases XP k n0 with h|h
      ·have:=iZ.out h;have h2:=of_decide_eq_true ‹decide (q.at_.at_>l.at_.at_)=true›;omega
      ·omega
     rw[fq.out,hle.2,←GH,this];simp
   ·refine hC _ _ _ _ _ ?_ ⟨k+1,out++[q],false,by omega,by simp;omega,.inl ⟨rfl,?_,?_⟩,rfl,rfl,rfl⟩ (wf (hh:=(by simp only[ah,aV,Xo,Xm,Xu,XY,XA,XZ,X3];rfl)) (he:=(by(repeat' (first|exact trivial|(refine⟨?_,?_⟩)|rfl|(simp only[XY,XA,XZ];rfl))))))
    ·have:=hm.out;omega
    ·have h1:=fl.out;rcases XP k n0 with h|h
     ·exact h
     ·have GH:k=n0:=by grind
      have:=jX.out GH;rename_i h2;simp at h2;omega
    ·have h1:=fl.out;rw[ag hq];grind
  ·obtain rfl:k=p.leases.length:=by omega
   refine wX ?_ ?_<;>intros
   ·rw[show gZ l p.leases=out from by have h1:=fl.out;grind];exact ai.refl _
   ·rw[show gZ l p.leases=out++[l] from by
     have h1:=fl.out;rw[fq.out];have GH:n0=p.leases.length:=by grind
     rw[GH];grind]
    rw[Xo];exact ai.refl _
def du (p:Pol)(size:Int):Pfx × Bool:=if 32≤p.leases.length then (Pfx.zero,false)else nC p.root (dt p) size
theorem H6 {root:Pfx}{us:List Pfx}{size:Int}(h:SpaceOK root us)(hf:(nC root us size).2=true):∀u∈us,u.at_≠(nC root us size).1.at_:=by
 unfold nC at hf ⊢;cases hq:(iR root us).find? (fun q=>decide (q.len≤size))with
 |none=>rw[hq]at hf;simp at hf
 |some q=>
  obtain⟨g1,g2⟩:=p6 h (YF hq);intro u hu he;have he:u.at_=q.at_:=he;have rR:=(cw.1 g1).1;have j5:=(cw.1 (h.ins u hu)).1;have hm:q.meets u=true:=dQ.2 ⟨rR,j5,by have:=Pfx.hi_bd j5;omega,by have:=Pfx.hi_bd rR;omega⟩;unfold iS at g2;rw[XU.2 ⟨u,hu,hm⟩]at g2;exact absurd g2 (by simp)
theorem Cw {p:Pol}{size:Int}(h:gY p.root (dt p)=0)(hr:fD p.rule p.root.len=true)(h1:p.rule.min≤size)(h2:size≤p.rule.max):cz p size=if (du p size).2=true then ((du p size).1,0)else (Pfx.zero,8):=by
 have ny:p.root.len≤size∧size≤16:=by
  unfold fD at hr;simp[f9]at hr;omega
 have fu:p.leases.length≤32:=by have:=(re.1 h).many;simpa[dt]using this
 unfold cz du;rw[if_neg (by omega),Li h ny];by_cases h3:32≤p.leases.length
 ·have h4:p.leases.length=32:=by omega
  simp[h3,h4]
 ·have h4:¬p.leases.length=32:=by omega
  rw[if_neg h3];cases hb:(nC p.root (dt p) size).2<;>simp[h4]
theorem Lj (p:Pol)(size:Int)(h:gY p.root (dt p)=0)(h1:p.root.len≤size)(h2:size≤16):af prog 166 [.agg (ah p),.v (.int .i64 size)] (.tup [.agg (aN (du p size).1),.v (.bool (du p size).2)]):=by
 have fu:p.leases.length≤32:=by have:=(re.1 h).many;simpa[dt]using this
 have nF:=yQ p (by omega);have ON:=NU p.root (dt p) size (re.1 h) h1 h2;unfold dt at ON;by_cases h3:32≤p.leases.length
 ·have h3I:decide ((p.leases.length:Int)≥32)=true:=by simp;omega
  have hr:du p size=(Pfx.zero,false):=by unfold du;rw[if_pos h3]
  rw[hr];replace hr:=Xj hr;refine pj func166 ntmps166 results166 ?_;exact aZ
 ·have h3I:decide ((p.leases.length:Int)≥32)=false:=by simp;omega
  have hr:du p size=nC p.root (p.leases.map (·.at_)) size:=by unfold du dt;rw[if_neg h3]
  rw[hr];replace hr:=Xj hr;refine pj func166 ntmps166 results166 ?_;exact aZ
theorem rn {b:Bok}{i:Nat}{p:Pol}(hr:mZ b.pools)(hp:b.pools[i]? =some p)(f:Pol→Pol):rg b p.id f=⟨b.tick,b.pools.set i (f p)⟩:=by
 unfold rg;congr 1;obtain⟨hi,he⟩:=Xn.1 hp;apply Yj;intro j;rw[Xz,Z3];by_cases hij:i=j
 ·subst hij;rw[hp];simp[hi]
 ·rw[if_neg hij];cases hq:b.pools[j]? with
  |none=>rfl
  |some q=>
   obtain⟨hj,po⟩:=Xn.1 hq;have bB:q.id≠p.id:=by
    rcases H' hij with h|h
    ·have:=XF.1 hr i j hi hj h;rw[he,po]at this;omega
    ·have:=XF.1 hr j i hj hi h;rw[he,po]at this;omega
   simp[bB]
theorem Cy {p:Pol}{size:Int}(h:gY p.root (dt p)=0)(hf:(du p size).2=true):∀x∈p.leases,x.at_.at_≠(du p size).1.at_:=by
 unfold du at hf ⊢;split at hf
 ·cases hf
 ·rename_i h3;rw[if_neg h3];intro x hx;exact H6 (re.1 h) hf x.at_ (XQ.2 ⟨x,hx,rfl⟩)
theorem Cz (b:Bok)(id size owner:Int)(hz:∀p∈b.pools,p.leases.length≤3518437208882):af prog 81 [.agg (aS b),.v (.int .i64 id),.v (.int .i64 size),.v (.int .i64 owner)] (.tup [.agg (aS (cO b id size owner).1),.agg (aN (cO b id size owner).2.1),.v (.int .i64 (cO b id size owner).2.2)]):=by
 obtain⟨R,hR⟩:∃R,R=cO b id size owner:=⟨_,rfl⟩;rw[←hR];replace hR:=Xj hR;have bc:=gB b hz;by_cases hc:a9 b=0
 ·have cn:=dF hc;have h8:=cn.n8;have hid:=ek owner 1 65536;have cY:=g9 b id (by omega);cases hq:bK b id with
  |none=>
   have hr:R=(Bok.zero,Pfx.zero,5):=by rw[hR.out];unfold cO;rw[if_neg (by simpa using hc),hq]
   rw[hr];rw[hc]at bc;rw[nd hq]at cY
   have ud:decide ((-1:Int) < 0)=true:=rfl;clear hr hR hq cn hc;refine pj func81 ntmps81 results81 ?_;refine am ?_<;>intros;exact dg
  |some p=>
   obtain⟨i,e1,e2,e3⟩:=g8 hq;subst e3;have oL:p∈b.pools:=Xl e2;have gk:=iE b cn.n8 cn.l32;have fR:=cn.mem p oL;have ny:∀s,p.rule.min≤s→s≤p.rule.max→p.root.len≤s∧s≤16:=by
    intro s;have:=fR.2.2;unfold fD at this;simp[f9]at this;omega
   have cP:∀s,Hid ((decide (p.rule.min≤s)&&decide (s≤p.rule.max))=true→p.root.len≤s∧s≤16):=fun s h=>by
    simp only[Xy,decide_eq_true_eq]at h;exact ny s h.1 h.2
   rw[hc]at bc;rw[e1]at cY
   have jU:decide ((i:Int) < 0)=false:=by simp
   have gj:=fun f=>rn cn.rise e2 f;have gM:=fun q=>bO ah b.pools i q;have key:∀s,(if size=0 then p.rule.usual else size)=s→Hid (R=if dR owner=false then (Bok.zero,Pfx.zero,3)else if (cz p s).2≠0 then (Bok.zero,Pfx.zero,(cz p s).2)else
    (⟨b.tick,b.pools.set i {p with leases:=gZ ⟨(cz p s).1,1,owner,0⟩ p.leases}⟩,(cz p s).1,0)):=by
    intro s hs;show R=_;rw[hR.out];unfold cO;rw[if_neg (by simpa using hc),hq];simp only;rw[hs,gj]
   have O8:i < b.pools.length:=(Xn.1 e2).1;obtain⟨s,hs⟩:∃s,((size==0)=true∧s=p.rule.usual)∨((size==0)=false∧s=size):=by
    cases h0:size==0
    ·exact⟨size,.inr ⟨rfl,rfl⟩⟩
    ·exact⟨p.rule.usual,.inl ⟨rfl,rfl⟩⟩
   have aP:=key s (by
    rcases hs with⟨h0,rfl⟩|⟨h0,rfl⟩
    ·rw[if_pos (by simpa using h0)]
    ·rw[if_neg (by simpa using h0)])
   have ux:=ek s p.rule.min p.rule.max;cases dB:(decide (p.rule.min≤s)&&decide (s≤p.rule.max))with
   |false=>
    rw[dB]at ux;have hE:cz p s=(Pfx.zero,7):=by
     unfold cz;rw[if_pos];simp only[ZK,decide_eq_false_iff_not]at dB;omega
    replace dB:=Xj dB;replace hE:=Xj hE;clear hR hc cn hq key gj gM;rcases hs with⟨h0,rfl⟩|⟨h0,rfl⟩
    all_goals
     refine pj func81 ntmps81 results81 ?_;refine wX ?_ ?_<;>intros;all_goals(have hE:=hE.out;unfold dR at aP;clear bc cY hid ux hz gk)
     all_goals first
      |(rw[show R=(Bok.zero,Pfx.zero,3) from (by rw[aP.out];grind)];(try simp only[Xo,Xm]);exact dg)
      |(rw[show R=(Bok.zero,Pfx.zero,7) from (by rw[aP.out];grind)];(try simp only[Xo,Xm]);exact dg)
   |true=>
    rw[dB]at ux;have uy:=Lj p s fR.2.1 (cP s dB).1 (cP s dB).2;have wZ:=Cw fR.2.1 fR.2.2 (by simp at dB;exact dB.1) (by simp at dB;exact dB.2);have IV:(du p s).2=true→af prog 167 [.agg (ah p),.agg (aV ⟨(du p s).1,1,owner,0⟩)] (.agg (ah {p with leases:=gZ ⟨(du p s).1,1,owner,0⟩ p.leases})):=fun h=>wd p _ (cn.l32 p oL) (Cy fR.2.1 h);have dP:=gM {p with leases:=gZ ⟨(du p s).1,1,owner,0⟩ p.leases};simp only[ah,Xm,Xu]at dP;replace IV:=Xj IV;clear hR hc cn hq key gj gM;replace dB:=Xj dB;cases hf:(du p s).2 with
    |false=>
     rw[hf]at uy wZ;have hE:cz p s=(Pfx.zero,8):=wZ;replace hE:=Xj hE;replace wZ:=Xj wZ;rcases hs with⟨h0,rfl⟩|⟨h0,rfl⟩
     all_goals
      refine pj func81 ntmps81 results81 ?_;refine wX ?_ ?_<;>intros;all_goals(have hE:=hE.out;unfold dR at aP;clear bc cY hid ux hz gk uy IV dP wZ)
      all_goals first
       |(rw[show R=(Bok.zero,Pfx.zero,3) from (by rw[aP.out];grind)];(try simp only[Xo,Xm]);exact dg)
       |(rw[show R=(Bok.zero,Pfx.zero,8) from (by rw[aP.out];grind)];(try simp only[Xo,Xm]);exact dg)
    |true=>
     rw[hf]at uy wZ;have hE:cz p s=((du p s).1,0):=wZ;replace hE:=Xj hE;replace wZ:=Xj wZ;have IV:=IV.out hf;rcases hs with⟨h0,rfl⟩|⟨h0,rfl⟩
     all_goals
      refine pj func81 ntmps81 results81 ?_;have z1z:=Ln.mk (ls:=[]) (gk);refine wX ?_ ?_<;>intros;all_goals(have hE:=hE.out;have fI:=aP.out;unfold dR at fI;rw[hE]at fI;replace aP:=Xj fI;clear bc cY hid ux hz gk uy IV dP wZ fI)
     all_goals first
      |(rw[show R=(Bok.zero,Pfx.zero,3) from (by rw[aP.out];grind)];(try simp only[Xo,Xm]);exact dg)
      |(rw[show R=(⟨b.tick,b.pools.set i {p with leases:=gZ ⟨(du p p.rule.usual).1,1,owner,0⟩ p.leases}⟩,(du p p.rule.usual).1,0) from (by rw[aP.out];grind)];(try simp only[Xo,Xm]);exact dg)
      |(rw[show R=(⟨b.tick,b.pools.set i {p with leases:=gZ ⟨(du p size).1,1,owner,0⟩ p.leases}⟩,(du p size).1,0) from (by rw[aP.out];grind)];(try simp only[Xo,Xm]);exact dg)
      |(rw[show R=(⟨b.tick,b.pools.set i {p with leases:=gZ ⟨(du p s).1,1,owner,0⟩ p.leases}⟩,(du p s).1,0) from (by rw[aP.out];grind)];(try simp only[Xo,Xm]);exact dg)
 ·have h1:(a9 b !=0)=true:=by simpa using hc
  have hr:R=(Bok.zero,Pfx.zero,a9 b):=by rw[hR.out];unfold cO;rw[if_pos hc]
  rw[hr];replace hr:=Xj hr;clear hR;refine pj func81 ntmps81 results81 ?_;refine am ?_<;>intros;exact dg
theorem EK {b:Bok}{i:Nat}{p q:Pol}{id:Int}(hp:b.pools[i]? =some p)(hid:q.id=p.id)(h:bK b id=none):bK ⟨b.tick,b.pools.set i q⟩ id=none:=by
 unfold bK at h ⊢;rw[Yq]at h ⊢;intro x hx;obtain⟨j,hj,rfl⟩:=X0.1 hx;simp only[List.getElem_set];split
 ·rename_i e;rw[hid];exact h p (Xl hp)
 ·exact h _ (Ym _)
theorem Lk (b:Bok)(id up size:Int)(r:Rul)(hz:∀p∈b.pools,p.leases.length≤3518437208882):af prog 161 [.agg (aS b),.v (.int .i64 id),.v (.int .i64 up),.v (.int .i64 size),.agg (pi r)] (.tup [.agg (aS (fP b id up size r).1),.agg (aN (fP b id up size r).2.1),.v (.int .i64 (fP b id up size r).2.2)]):=by
 obtain⟨R,hR⟩:∃R,R=fP b id up size r:=⟨_,rfl⟩;rw[←hR];replace hR:=Xj hR;have bc:=gB b hz;by_cases hc:a9 b=0
 ·have cn:=dF hc;have h8:=cn.n8;have hid:=ek id 1 65536;have cY:=g9 b up (by omega);have qo:=g9 b id (by omega);cases hq:bK b up with
  |none=>
   have aP:R=if dR id=false then (Bok.zero,Pfx.zero,3)else (Bok.zero,Pfx.zero,5):=by rw[hR.out];unfold fP;rw[if_neg (by simpa using hc),hq]
   rw[hc]at bc;rw[nd hq]at cY
   have ud:decide ((-1:Int) < 0)=true:=rfl;replace aP:=Xj aP;clear hR hq cn hc qo;refine pj func161 ntmps161 results161 ?_;refine wX ?_ ?_<;>intros;all_goals(unfold dR at aP;clear bc cY hid hz)
   all_goals first
    |(rw[show R=(Bok.zero,Pfx.zero,3) from (by rw[aP.out];grind)];(try simp only[Xo,Xm]);exact dg)
    |(rw[show R=(Bok.zero,Pfx.zero,5) from (by rw[aP.out];grind)];(try simp only[Xo,Xm]);exact dg)
  |some p=>
   obtain⟨i,e1,e2,e3⟩:=g8 hq;subst e3;have oL:p∈b.pools:=Xl e2;have gk:=iE b cn.n8 cn.l32;have fR:=cn.mem p oL;have O8:i < b.pools.length:=(Xn.1 e2).1;have ny:∀s,p.rule.min≤s→s≤p.rule.max→p.root.len≤s∧s≤16:=by
    intro s;have:=fR.2.2;unfold fD at this;simp[f9]at this;omega
   rw[hc]at bc;rw[e1]at cY
   have jU:decide ((i:Int) < 0)=false:=by simp
   have gj:=fun f=>rn cn.rise e2 f;have gM:=fun q=>bO ah b.pools i q;have aP:R=if dR id=false then (Bok.zero,Pfx.zero,3)else if (bK b id).isSome=true then (Bok.zero,Pfx.zero,6)else if (cz p size).2≠0 then (Bok.zero,Pfx.zero,(cz p size).2)else if fD r (cz p size).1.len=false then (Bok.zero,Pfx.zero,1)else
    if b.pools.length=8 then (Bok.zero,Pfx.zero,2)else (⟨b.tick,kY ⟨id,p.id,(cz p size).1,r,[]⟩ (b.pools.set i {p with leases:=gZ ⟨(cz p size).1,2,id,0⟩ p.leases})⟩,(cz p size).1,0):=by
    rw[hR.out];unfold fP;rw[if_neg (by simpa using hc),hq];simp only;rw[gj]
   replace aP:=Xj aP;cases po:bK b id with
   |some q=>
    obtain⟨j,f1,f2,f3⟩:=g8 po;rw[f1]at qo;have QQ:decide ((j:Int)≥0)=true:=by simp
    have fI:=aP.out;rw[po]at fI;replace aP:=Xj fI;clear hR hc cn hq po gj gM f2 f1 f3 fI;refine pj func161 ntmps161 results161 ?_;refine wX ?_ ?_<;>intros;all_goals(unfold dR at aP;clear bc cY hid hz qo gk)
    all_goals first
     |(rw[show R=(Bok.zero,Pfx.zero,3) from (by rw[aP.out];grind)];(try simp only[Xo,Xm]);exact dg)
     |(rw[show R=(Bok.zero,Pfx.zero,6) from (by rw[aP.out];grind)];(try simp only[Xo,Xm]);exact dg)
   |none=>
    rw[nd po]at qo;have ud:decide ((-1:Int)≥0)=false:=rfl;have fI:=aP.out;rw[po]at fI;replace aP:=Xj fI;clear fI;have ux:=ek size p.rule.min p.rule.max;cases dB:(decide (p.rule.min≤size)&&decide (size≤p.rule.max))with
    |false=>
     rw[dB]at ux;have hE:cz p size=(Pfx.zero,7):=by
      unfold cz;rw[if_pos];simp only[ZK,decide_eq_false_iff_not]at dB;omega
     replace dB:=Xj dB;replace hE:=Xj hE;clear hR hc cn hq gj gM po;refine pj func161 ntmps161 results161 ?_;refine wX ?_ ?_<;>intros;all_goals(have hE:=hE.out;unfold dR at aP;clear bc cY hid ux hz gk qo)
     all_goals first
      |(rw[show R=(Bok.zero,Pfx.zero,3) from (by rw[aP.out];grind)];(try simp only[Xo,Xm]);exact dg)
      |(rw[show R=(Bok.zero,Pfx.zero,7) from (by rw[aP.out];grind)];(try simp only[Xo,Xm]);exact dg)
    |true=>
     rw[dB]at ux;simp only[Xy,decide_eq_true_eq]at dB;have ny:=ny size dB.1 dB.2;have uy:=Lj p size fR.2.1 ny.1 ny.2;have wZ:=Cw fR.2.1 fR.2.2 dB.1 dB.2;have IV:(du p size).2=true→af prog 167 [.agg (ah p),.agg (aV ⟨(du p size).1,2,id,0⟩)] (.agg (ah {p with leases:=gZ ⟨(du p size).1,2,id,0⟩ p.leases})):=fun h=>wd p _ (cn.l32 p oL) (Cy fR.2.1 h);have dP:=gM {p with leases:=gZ ⟨(du p size).1,2,id,0⟩ p.leases};simp only[ah,Xm,Xu]at dP;have wS:=qd r (du p size).1;have GE:=yR ⟨b.tick,b.pools.set i {p with leases:=gZ ⟨(du p size).1,2,id,0⟩ p.leases}⟩ ⟨id,p.id,(du p size).1,r,[]⟩ b.pools.length (.agg [.v (.int .i64 id),.v (.int .i64 p.id),.v (.int .i64 (du p size).1.at_),.v (.int .i64 (du p size).1.len),.v (.int .i64 r.min),.v (.int .i64 r.max),.v (.int .i64 r.usual),.v (.int .i64 r.cool),.v (.slice none 0 0)]) (by simpa using h8) (EK e2 (by rfl) po) dg;replace IV:=Xj IV;clear hR hc cn hq gj gM ny po;replace dB:=Xj dB;cases hf:(du p size).2 with
     |false=>
      rw[hf]at uy wZ;have hE:cz p size=(Pfx.zero,8):=wZ;replace hE:=Xj hE;replace wZ:=Xj wZ;refine pj func161 ntmps161 results161 ?_;refine wX ?_ ?_<;>intros;all_goals(have hE:=hE.out;unfold dR at aP;clear bc cY hid ux hz gk qo uy IV dP wZ GE wS)
      all_goals first
       |(rw[show R=(Bok.zero,Pfx.zero,3) from (by rw[aP.out];grind)];(try simp only[Xo,Xm]);exact dg)
       |(rw[show R=(Bok.zero,Pfx.zero,8) from (by rw[aP.out];grind)];(try simp only[Xo,Xm]);exact dg)
     |true=>
      rw[hf]at uy wZ;have hE:cz p size=((du p size).1,0):=wZ;have fI:=aP.out;unfold dR at fI;rw[hE]at fI;replace aP:=Xj fI;clear hE wZ fI;have IV:=IV.out hf;refine pj func161 ntmps161 results161 ?_;have z1z:=Ln.mk (ls:=[]) (gk);have z2z:=Ln.mk (ls:=[8]) (GE);refine RE ?_ ?_ ?_ ?_<;>intros;all_goals(clear bc cY hid ux hz gk qo uy IV dP GE wS)
      all_goals first
       |(rw[show R=(Bok.zero,Pfx.zero,3) from (by rw[aP.out];grind)];(try simp only[Xo,Xm]);exact dg)
       |(rw[show R=(Bok.zero,Pfx.zero,1) from (by rw[aP.out];grind)];(try simp only[Xo,Xm]);exact dg)
       |(rw[show R=(Bok.zero,Pfx.zero,2) from (by rw[aP.out];grind)];(try simp only[Xo,Xm]);exact dg)
       |(rw[show R=(⟨b.tick,kY ⟨id,p.id,(du p size).1,r,[]⟩ (b.pools.set i {p with leases:=gZ ⟨(du p size).1,2,id,0⟩ p.leases})⟩,(du p size).1,0) from (by rw[aP.out];grind)];(try simp only[Xo,Xm]);exact dg)
 ·have h1:(a9 b !=0)=true:=by simpa using hc
  have hr:R=(Bok.zero,Pfx.zero,a9 b):=by rw[hR.out];unfold fP;rw[if_pos hc]
  rw[hr];replace hr:=Xj hr;clear hR;refine pj func161 ntmps161 results161 ?_;refine am ?_<;>intros;exact dg
@[go_sem] def Lse.zero:Lse:=⟨Pfx.zero,0,0,0⟩
def gC (b:Bok)(id:Int)(at_:Pfx):Option Lse:=match bK b id with|some p=>p.leases.find? (i9 at_)|none=>none
def oB (o:Option Lse):D:=match o with|some l=> .tup [.agg (aV l),.v (.bool true)]|none=> .tup [.agg (aV Lse.zero),.v (.bool false)]
theorem Oo {α:Type}{p:α→Bool}{l:List α}{k:Nat}{x:α}(hx:l[k]? =some x)(hp:p x=true)(cf:∀j y,j < k→l[j]? =some y→p y=false):l.find? p=some x:=by
 rw[List.find?_eq_some_iff_getElem];obtain⟨hk,he⟩:=Xn.1 hx;exact⟨hp,k,hk,he,fun j hj=>by rw[cf j _ hj (Xk (by omega))];rfl⟩
theorem Oq {α:Type}{p:α→Bool}{l:List α}(cf:∀j y,j < l.length→l[j]? =some y→p y=false):l.find? p=none:=by
 rw[Yq];intro x hx;obtain⟨j,hj,rfl⟩:=X0.1 hx;rw[cf j _ hj (Xk hj)];simp
theorem yS (b:Bok)(id:Int)(at_:Pfx)(hl:b.pools.length≤1000000000)(fu:∀q∈b.pools,q.leases.length≤1000000000):af prog 39 [.agg (aS b),.v (.int .i64 id),.agg (aN at_)] (oB (gC b id at_)):=by
 have cY:=g9 b id (by omega);unfold gC;cases hq:bK b id with
 |none=>
  rw[nd hq]at cY
  have ud:decide ((-1:Int)≥0)=false:=rfl;replace hq:=Xj hq;simp only;refine pj func39 ntmps39 results39 ?_;refine am ?_<;>intros;refine qK ae ak 0 (fun _=>True) (fun _=>[(9,.d (.v (.int .i64 0))),(8,.d (.v (.int .i64 (-1)))),(7,.d (.v (.bool false))),(6,.ptr 2 0),(5,.ptr 1 0),(3,.ptr 0 0)]) (fun _=>[.box 24 ((aS b).map .d),.box 32 ((aN at_).map .d),.box 68 ((aV Lse.zero).map .d)]) trivial (wf) (fun k hk=>absurd hk (YJ _)) ?_;intro _ C;exact aZ;all_goals exact dg
 |some p=>
  obtain⟨i,e1,e2,e3⟩:=g8 hq;rw[e1]at cY
  have jU:decide ((i:Int)≥0)=true:=by simp
  have a0d:=fu p (Xl e2);simp only;clear e1 e3 hq;refine pj func39 ntmps39 results39 ?_;refine am ?_<;>intros;refine bg ae ak p.leases (fun k=>∀j (l:Lse),j < k→p.leases[j]? =some l→i9 at_ l=false) (fun k=>[(9,.d (.v (.int .i64 k))),(8,.d (.v (.int .i64 i))),(7,.d (.v (.bool false))),(6,.ptr 2 0),(5,.ptr 1 0),(3,.ptr 0 0)]) (fun _=>[.box 24 ((aS b).map .d),.box 32 ((aN at_).map .d),.box 68 ((aV Lse.zero).map .d)]) (fun j q h=>absurd h (YJ _)) (wf) ?_ ?_
  ·intro k l i4 hk hI C hC;have dH:(k:Int) < (p.leases.length:Int):=by omega
   have cM:=wi k (by omega);have he:=mw l.at_ at_;have O4:i9 at_ l=((l.kind==1)&&decide (l.at_=at_)):=rfl;have key:i9 at_ l=false→∀j (l:Lse),j < k+1→p.leases[j]? =some l→i9 at_ l=false:=by
    intro h1 j l' hj hl';rcases XP j k with h|h
    ·exact hI j l' h hl'
    ·obtain rfl:j=k:=by omega
     rw[i4]at hl';obtain rfl:=XX.inj hl';exact h1
   have I0:i9 at_ l=true→p.leases.find? (i9 at_)=some l:=fun h=>Oo i4 h hI;replace I0:=Xj I0;replace O4:=Xj O4;replace key:=Xj key;replace hI:=Xj hI;cases hd:decide (l.at_=at_);all_goals
    rw[hd]at he;refine wX ?_ ?_<;>intros;all_goals first
     |(refine hC _ _ (key.out ?_) (wf);(rw[O4.out];clear hC;simp_all;done))
     |(rw[I0.out (by rw[O4.out];clear hC;simp_all)];exact ai.refl _)
  ·intro hI C;rw[Oq hI];replace hI:=Xj hI;exact aZ;all_goals exact dg
def eU (p:Pol)(at_:Pfx)(tick:Int)(l:Lse):Option Lse:=if l.at_=at_ then (if p.rule.cool=0 then none else some ⟨at_,3,0,tick+p.rule.cool⟩)else some l
theorem H7 {p:Pol}{at_:Pfx}{tick:Int}{k:Nat}{l:Lse}(h:p.leases[k]? =some l):(p.leases.take (k+1)).filterMap (eU p at_ tick)=(p.leases.take k).filterMap (eU p at_ tick)++(eU p at_ tick l).toList:=by
 rw[ag h,List.filterMap_append];cases hb:eU p at_ tick l<;>simp[hb]
theorem Ll (ps:List Pol)(tick:Int)(i:Nat)(p:Pol)(at_:Pfx)(g:Nat)(hp:ps[i]? =some p)(hl:p.leases.length≤32)(wH:0≤p.rule.cool∧p.rule.cool≤1024)(ht:0≤tick∧tick≤1073741824):
 MSpec prog 170 [.ptr 0 0,.d (.v (.int .i64 i)),.d (.agg (aN at_))] [.box 24 [.d (.v (.int .i64 tick)),.own 1 g],.row 62 9 g (ab (ps.map ah))] (.d (.tup []))
  [.box 24 [.d (.v (.int .i64 tick)),.own 1 g],.row 62 9 g (ab ((ps.set i {p with leases:=p.leases.filterMap (eU p at_ tick)}).map ah)),.gone,.gone]:=by
 have TV:i < ps.length:=(Xn.1 hp).1;refine zN ae ak func170 rfl ntmps170 results170 (by kernel_rfl) (by simp) (by simp[an,aq]) (by simp[aH,aQ,az,an,aq]) ?_;refine am ?_<;>intros;refine bg ae ak p.leases (fun _=>True) (fun k=>[(7,.d (.v (.int .i64 k))),(6,.own 3 ((p.leases.take k).filterMap (eU p at_ tick)).length),(5,.ptr 2 0),(1,.d (.v (.int .i64 i))),(0,.ptr 0 0)])
  (fun k=>[.box 24 [.d (.v (.int .i64 tick)),.own 1 g],.row 62 9 g (ab (ps.map ah)),.box 32 ((aN at_).map .d),.row 68 5 ((p.leases.take k).filterMap (eU p at_ tick)).length (ab (((p.leases.take k).filterMap (eU p at_ tick)).map aV))]) trivial ?_ ?_ ?_
 ·refine(cS (by simp) 6 68 5 rfl).trans ?_;exact wf (hh:=(by simp only[aN];rfl))
 ·intro k l i4 hk _ C hC;have dH:(k:Int) < (p.leases.length:Int):=by omega
  have cM:=wi k (by omega);have Wi:IntKind.i64.wrap (tick+p.rule.cool)=tick+p.rule.cool:=by rw[IntKind.wrap_i64];omega
  have Mz:=H7 (at_:=at_) (tick:=tick) i4;have pF:((p.leases.take k).filterMap (eU p at_ tick)).length≤k:=Yy (List.length_filterMap_le _ _) (by rw[Xp];omega);generalize (p.leases.take k).filterMap (eU p at_ tick)=out at*;have i7:out.length+1≤100:=by omega
  rw[Mz]at hC;have he:=mw l.at_ at_;cases hd:decide (l.at_=at_)
  ·rw[hd]at he;have xK:eU p at_ tick l=some l:=by unfold eU;rw[if_neg (by simpa using hd)]
   rw[xK]at hC;simp only[_a]at hC;clear Mz xK;refine am ?_<;>intros;exact hC _ _ trivial (wf (hh:=(by simp only[aN,aV,Xo,Xm,Xu,XY,XA,XZ];rfl)) (he:=(by(repeat' (first|exact trivial|(refine⟨?_,?_⟩)|rfl|(simp only[XY,XA,XZ];rfl))))))
  ·rw[hd]at he;cases IL:p.rule.cool==0
   ·have xK:eU p at_ tick l=some ⟨at_,3,0,tick+p.rule.cool⟩:=by unfold eU;rw[if_pos (by simpa using hd),if_neg (by simpa using IL)]
    rw[xK]at hC;simp only[_a]at hC;clear Mz xK;refine am ?_<;>intros;exact hC _ _ trivial (wf (hh:=(by simp only[aN,aV,Xo,Xm,Xu,XY,XA,XZ];rfl)) (he:=(by(repeat' (first|exact trivial|(refine⟨?_,?_⟩)|rfl|(simp only[XY,XA,XZ];rfl))))))
   ·have xK:eU p at_ tick l=none:=by unfold eU;rw[if_pos (by simpa using hd),if_pos (by simpa using IL)]
    rw[xK]at hC;simp only[Option.toList_none,Yv]at hC;clear Mz xK;refine am ?_<;>intros;exact hC _ _ trivial (wf (hh:=(by simp only[aN,aV,Xo,Xm,Xu,XY,XA,XZ];rfl)) (he:=(by(repeat' (first|exact trivial|(refine⟨?_,?_⟩)|rfl|(simp only[XY,XA,XZ];rfl))))))
 ·intro _ C;(try rw[Xt])
  refine am ?_<;>intros;refine(ap 3 _ 68 5 _ rfl).trans ?_;simp only[iu,fz,gr,f7,gV,f5,aR,bR,bW,Xm,Xu,XM,XL,reduceIte,and_true,true_and,and_self,and_false,false_and,XG,XW,reduceCtorEq,FA];refine(aL 2 (by simp)).trans (bo rfl ?_);rw[←bO];rfl
theorem yT {p:Pol}{at_:Pfx}{tick:Int}{j:Nat}{l:Lse}(hs:p.leases.Pairwise fun a b=>a.at_.at_ < b.at_.at_)(hj:p.leases[j]? =some l)(hl:l.at_=at_):p.leases.filterMap (eU p at_ tick)=jO p j tick:=by
 obtain⟨hlt,he⟩:=Xn.1 hj;have TW:p.leases=p.leases.take j++l::p.leases.drop (j+1):=by rw[←he,ZZ,YX]
 have hid:∀(ls:List Lse),(∀x∈ls,x.at_≠at_)→ls.filterMap (eU p at_ tick)=ls:=by
  intro ls h;induction ls with
  |nil=>rfl
  |cons a ls ih=>
   have ha:eU p at_ tick a=some a:=by unfold eU;rw[if_neg (h a (by simp))]
   rw[List.filterMap_cons,ha];simp only;rw[ih fun x hx=>h x (by simp[hx])]
 have oK:=hs;rw[TW,YT,YC]at oK;have h1:=hid (p.leases.take j) (fun x hx e=>by have:=oK.2.2 x hx l (by simp);rw[e,hl]at this;omega);have h2:=hid (p.leases.drop (j+1)) (fun x hx e=>by have:=oK.2.1.1 x hx;rw[e,hl]at this;omega);have h3:p.leases.filterMap (eU p at_ tick)=p.leases.take j++((eU p at_ tick l).toList++p.leases.drop (j+1)):=by
  conv=>lhs;rw[TW]
  rw[List.filterMap_append,h1,List.filterMap_cons,h2];cases eU p at_ tick l<;>rfl
 rw[h3];unfold eU jO;rw[if_pos hl,hj];split
 ·rw[YK];rfl
 ·simp only[hl,_a,List.singleton_append];rw[List.set_eq_take_append_cons_drop,if_pos hlt]
theorem CA (b:Bok)(id:Int)(at_:Pfx)(hz:∀p∈b.pools,p.leases.length≤3518437208882):af prog 84 [.agg (aS b),.v (.int .i64 id),.agg (aN at_)] (.tup [.agg (aS (fg b id at_).1),.v (.int .i64 (fg b id at_).2)]):=by
 obtain⟨R,hR⟩:∃R,R=fg b id at_:=⟨_,rfl⟩;rw[←hR];replace hR:=Xj hR;have bc:=gB b hz;by_cases hc:a9 b=0
 ·have cn:=dF hc;have h8:=cn.n8;have nm:=yS b id at_ (by omega) (fun q hq=>by have:=cn.l32 q hq;omega);rw[hc]at bc;have no:gC b id at_=none→R=(Bok.zero,5):=fun h=>by
   rw[hR.out];unfold fg;rw[if_neg (by simpa using hc)];unfold gC at h;cases hq:bK b id with
   |none=>rfl
   |some p=>
    rw[hq]at h;simp only at h ⊢;cases hf:p.leases.findIdx? (i9 at_)with
    |none=>rfl
    |some j=>
     obtain⟨hj,h1,-⟩:=XH.1 hf;exact absurd h1 (Yq.1 h _ (Ym hj))
  cases sV:gC b id at_ with
  |none=>
   rw[sV]at nm;rw[no sV];simp only[oB]at nm;clear no hR sV cn;refine pj func84 ntmps84 results84 ?_;refine am ?_<;>intros;exact dg
  |some l=>
   rw[sV]at nm;simp only[oB]at nm;have gk:=iE b cn.n8 cn.l32;have cY:=g9 b id (by omega);unfold gC at sV;cases hq:bK b id with
   |none=>rw[hq]at sV;simp at sV
   |some p=>
    rw[hq]at sV;simp only at sV;obtain⟨i,e1,e2,e3⟩:=g8 hq;subst e3;have oL:p∈b.pools:=Xl e2;have I6:=Ll b.pools b.tick i p at_ b.pools.length e2 (cn.l32 p oL) (oY (cn.mem p oL).2.2) cn.tick;have hr:R=(⟨b.tick,b.pools.set i {p with leases:=p.leases.filterMap (eU p at_ b.tick)}⟩,0):=by
     rw[hR.out];unfold fg;rw[if_neg (by simpa using hc),hq];simp only;cases hf:p.leases.findIdx? (i9 at_)with
     |none=>
      rw[Yn]at hf;have h1:=Zh sV;rw[hf l (YF sV)]at h1;exact absurd h1 (by simp)
     |some j=>
      simp only;obtain⟨hj,h1,-⟩:=XH.1 hf;unfold i9 at h1;simp only[Xy,decide_eq_true_eq]at h1;rw[rn cn.rise e2,yT (kZ (cn.mem p oL).2.1) (Xk hj) h1.2]
    rw[hr];rw[e1]at cY
    clear hr hR no sV hq cn e1 e2;refine pj func84 ntmps84 results84 ?_;have z1z:=Ln.mk (ls:=[]) (gk);have z2z:=Ln.mk (ls:=[8,7]) (I6);exact aZ
 ·have h1:(a9 b !=0)=true:=by simpa using hc
  have hr:R=(Bok.zero,a9 b):=by rw[hR.out];unfold fg;rw[if_pos hc]
  rw[hr];replace hr:=Xj hr;clear hR;refine pj func84 ntmps84 results84 ?_;refine am ?_<;>intros;exact dg
theorem CB {l:List Pol}(hr:mZ l){i j:Nat}{p q:Pol}(hp:l[i]? =some p)(hq:l[j]? =some q)(h:i≠j):p.id≠q.id:=by
 obtain⟨hi,rfl⟩:=Xn.1 hp;obtain⟨hj,rfl⟩:=Xn.1 hq;rcases H' h with h|h
 ·have:=XF.1 hr i j hi hj h;omega
 ·have:=XF.1 hr j i hj hi h;omega
theorem ro {l:List Pol}(hr:mZ l){i:Nat}{p:Pol}(hp:l[i]? =some p):l.filter (fun q=>!(q.id==p.id))=l.eraseIdx i:=by
 obtain⟨hi,he⟩:=Xn.1 hp;have TW:l=l.take i++p::l.drop (i+1):=by rw[←he,ZZ,YX]
 have h1:(l.take i).filter (fun q=>!(q.id==p.id))=l.take i:=Y0.2 fun q hq=>by
  obtain⟨j,hj,rfl⟩:=X0.1 hq;rw[Xp]at hj;have:=CB hr (Xk (show j < l.length by omega)) hp (by omega);simpa using this
 have h2:(l.drop (i+1)).filter (fun q=>!(q.id==p.id))=l.drop (i+1):=Y0.2 fun q hq=>by
  obtain⟨j,hj,rfl⟩:=X0.1 hq;rw[XI]at hj;have:=CB hr (Xk (show i+1+j < l.length by omega)) hp (by omega);simpa using this
 rw[YK];conv=>lhs;rw[TW]
 rw[YW,h1,Zu,h2];simp
theorem Lm {l:List Pol}(hr:mZ l){i:Nat}{p q:Pol}(hp:l[i]? =some p)(h:q.id=p.id):mZ (l.set i q):=by
 unfold mZ at hr ⊢;rw[XF]at hr ⊢;intro a c ha hc hac;simp only[YV]at ha hc;have h1:=hr a c ha hc hac;obtain⟨hi,he⟩:=Xn.1 hp;simp only[List.getElem_set];split<;>split
 ·omega
 ·rename_i e1 e2;subst e1;rw[h,←he];exact h1
 ·rename_i e1 e2;subst e2;rw[h,←he];exact h1
 ·exact h1
theorem EL {α:Type}(l:List α)(i n:Nat)(hi:i < l.length)(hn:n=l.length):(ay l i ((l.drop (i+1)).take (n - (i+1)))).take (i+min (n - (i+1)) (n - (i+1)))=l.eraseIdx i:=by
 subst hn;have h1:(l.drop (i+1)).take (l.length - (i+1))=l.drop (i+1):=XN (by rw[XI];omega);rw[h1,Zq,YK];unfold ay;rw[Yl (by simp;omega),XN (by simp;omega)]
structure CutB (ps:List Pol)(i n:Nat):Prop where
 ne:¬ab (ps.map ah)=[]
 ne2:¬ay (ab (ps.map ah)) i (((ab (ps.map ah)).drop (i+1)).take (n - (i+1)))=[]
 len:(ay (ab (ps.map ah)) i (((ab (ps.map ah)).drop (i+1)).take (n - (i+1)))).length=n
 cut:(ay (ab (ps.map ah)) i (((ab (ps.map ah)).drop (i+1)).take (n - (i+1)))).take (i+min (n - (i+1)) (n - (i+1)))=ab ((ps.eraseIdx i).map ah)
theorem So {ps:List Pol}{i n:Nat}(hi:i < n)(hn:n=ps.length):CutB ps i n:=by
 have hl:(ab (ps.map ah)).length=ps.length:=by simp[aF]
 have h2:=lA (ab (ps.map ah)) i (i+1) n (by omega) rfl (by omega);refine⟨fun h=>?_,fun h=>?_,by omega,?_⟩
 ·rw[h]at hl;simp at hl;omega
 ·rw[h]at h2;simp at h2;omega
 ·rw[EL _ i n (by omega) (by omega)];unfold ab;rw[fU,fU]
theorem CC {b:Bok}(cn:BookOK b){p u:Pol}{i j:Nat}(hq:bK b p.id=some p)(hi:b.pools[i]? =some p)(hu:bK b p.up=some u)(hj:b.pools[j]? =some u)(Tx:u.id=p.up):
 i≠j∧il b p=b.pools.set j {u with leases:=u.leases.filterMap (eU u p.root b.tick)}:=by
 have oL:p∈b.pools:=Xl hi;have IQ:u∈b.pools:=Xl hj;have h0:∀q∈b.pools,q.id≠0:=fun q hq e=>by have:=(cn.mem q hq).1;rw[e]at this;simp[dR]at this
 have gj:=(jq _ _ cn.second p oL).1;refine⟨?_,?_⟩
 ·rintro rfl;rw[hi]at hj;obtain rfl:=XX.inj hj;rw[Ac hq (h0 p oL) Tx.symm b.pools.length]at gj;exact absurd gj (by simp)
 ·have im:=F6 gj (by rw[←Tx];exact h0 u IQ) hu;unfold il;rw[hu];simp only;cases hf:u.leases.findIdx? (lm p.id)with
  |none=>
   rw[Yn]at hf;obtain⟨x,hx,lL⟩:=XU.1 im;rw[hf x hx]at lL;exact absurd lL (by simp)
  |some k=>
   simp only;obtain⟨hk,h1,-⟩:=XH.1 hf;have bF:=(jq _ _ cn.second u IQ).2 _ (Ym hk);unfold lm at h1;simp only[Xy,beq_iff_eq]at h1;have cY:u.leases[k].at_=p.root:=by
    unfold eL at bF;rw[if_neg (by simp[h1.1]),if_pos (by simp[h1.1]),h1.2,hq]at bF;simp only[Xy,decide_eq_true_eq]at bF;exact bF.2.1.symm
   rw[rn cn.rise hj,yT (kZ (cn.mem u IQ).2.1) (Xk hk) cY]
theorem H8 (b:Bok)(id:Int)(hz:∀p∈b.pools,p.leases.length≤3518437208882):af prog 162 [.agg (aS b),.v (.int .i64 id)] (.tup [.agg (aS (fh b id).1),.v (.int .i64 (fh b id).2)]):=by
 obtain⟨R,hR⟩:∃R,R=fh b id:=⟨_,rfl⟩;rw[←hR];replace hR:=Xj hR;have bc:=gB b hz;by_cases hc:a9 b=0
 ·have cn:=dF hc;have h8:=cn.n8;have cY:=g9 b id (by omega);rw[hc]at bc;cases hq:bK b id with
  |none=>
   have hr:R=(Bok.zero,5):=by rw[hR.out];unfold fh;rw[if_neg (by simpa using hc),hq]
   rw[hr];rw[nd hq]at cY
   have ud:decide ((-1:Int) < 0)=true:=rfl;clear hr hR hq cn hc;refine pj func162 ntmps162 results162 ?_;refine am ?_<;>intros;exact dg
  |some p=>
   obtain⟨i,e1,e2,e3⟩:=g8 hq;subst e3;have oL:p∈b.pools:=Xl e2;have O8:i < b.pools.length:=(Xn.1 e2).1;have gk:=iE b cn.n8 cn.l32;have qo:=g9 b p.up (by omega);have jU:decide ((i:Int) < 0)=false:=by simp
   have iG:=cn.l32 p oL;rw[e1]at cY
   have aP:R=if (p.leases.any fun l=>l.kind !=3)=true then (Bok.zero,9)else (⟨b.tick,(il b p).filter fun q=>!(q.id==p.id)⟩,0):=by
    rw[hR.out];unfold fh;rw[if_neg (by simpa using hc),hq]
   replace aP:=Xj aP;clear hR;refine pj func162 ntmps162 results162 ?_;refine am ?_<;>intros;refine bg ae ak p.leases (fun k=>∀j (l:Lse),j < k→p.leases[j]? =some l→(l.kind !=3)=false) (fun k=>[(8,.d (.v (.int .i64 k))),(7,.d (.v (.int .i64 i))),(5,.d (.v (.int .i64 0))),(4,.ptr 1 0),(2,.ptr 0 0),(1,.d (.v (.int .i64 p.id)))])
    (fun _=>[.box 24 ((aS b).map .d),.box 24 [.d (.v (.int .i64 0)),.d (.v (.slice none 0 0))]]) (fun j q h=>absurd h (YJ _)) (wf) ?_ ?_
   ·intro k l i4 hk hI C hC;have dH:(k:Int) < (p.leases.length:Int):=by omega
    have cM:=wi k (by omega);replace hI:=Xj hI;refine wX ?_ ?_<;>intros
    ·rename_i h1;have im:(p.leases.any fun l=>l.kind !=3)=true:=XU.2 ⟨l,Xl i4,h1⟩;clear hC hI hz bc cY qo gk cn;(rw[show R=(Bok.zero,9) from (by rw[aP.out];grind)];(try simp only[Xo,Xm]);exact dg)
    ·rename_i h1;refine hC _ _ (fun j l' hj hl'=>?_) (wf);rcases XP j k with h|h
     ·exact hI.out j l' h hl'
     ·obtain rfl:j=k:=by omega
      rw[i4]at hl';obtain rfl:=XX.inj hl';exact h1
   ·intro hI C;have im:(p.leases.any fun l=>l.kind !=3)=false:=by
     rw[Yh];intro l hl;obtain⟨j,hj,rfl⟩:=X0.1 hl;rw[hI j _ hj (Xk hj)];simp
    have fI:=aP.out;rw[im]at fI;simp only[YB,if_false]at fI;replace hI:=Xj hI;replace im:=Xj im;have ux:=wi i (by omega);cases hu:bK b p.up with
    |none=>
     rw[nd hu]at qo;have ud:decide ((-1:Int)≥0)=false:=rfl;have fS:il b p=b.pools:=by unfold il;rw[hu]
     rw[fS,ro cn.rise e2]at fI;replace aP:=Xj fI;clear fI fS hu cn hq hc;have Vk:i≤b.pools.length:=by omega
     have hle2:i+1≤b.pools.length:=by omega
     have Rw:i+(b.pools.length - (i+1))≤b.pools.length:=by omega
     have Vl:i+min (b.pools.length - (i+1)) (b.pools.length - (i+1))≤b.pools.length:=by rw[Zq];exact Rw
     obtain⟨bB,ue,o9,hcut⟩:=So (ps:=b.pools) O8 rfl;have II:0 < b.pools.length:=by omega
     repeat' (first|(with_reducible refine And.intro ?_ ?_)|(with_reducible refine cm (fun _=>?_) (fun _=>?_))|(with_reducible refine aA (fun _=>?_) (fun _=>?_))|(with_reducible refine be (by kernel_rfl))|simp -dsimp only[go_sem,seval, *,aS,ah,e2,YN,ud,ux,bB,ue,o9,hcut,Yo,Xp,XI]|((with_reducible refine bf ?_);simp -dsimp only[go_sem,seval,aS,ah,e2,YN,ud,ux,bB,ue,o9,hcut,Yo,Xp,XI];first|refine aC (by first|assumption|exact qo) (by first|exact .inl rfl|exact .inr rfl) ?_|(refine aB (by assumption) ?_ ?_ ?_;(solve|(repeat(first|exact ai.refl _|exact ai.nil _|(refine ai.tup ?_)|(refine ai.agg ?_ rfl)|exact trivial|(refine And.intro ?_ ?_))));(solve|exact .inl rfl|exact .inr rfl)))|(refine aX [] (gk) ?_ ?_ ?_ ?_ ?_ ?_;(solve|rfl|simp only[go_sem,seval,aS]);(solve|rfl);(solve|decide);(solve|simp);(solve|simp only[go_sem,seval,ax,aS]))|omega|exact decide_eq_true (by omega)|exact ai.refl _)
     all_goals clear hz bc cY qo gk bB ue hcut o9
     rw[aP.out];first|done|exact ai.refl _
    |some u=>
     obtain⟨j,f1,f2,f3⟩:=g8 hu;obtain⟨hij,fS⟩:=CC cn hq e2 hu f2 f3;have IQ:u∈b.pools:=Xl f2;have I6:=Ll b.pools b.tick j u p.root b.pools.length f2 (cn.l32 u IQ) (oY (cn.mem u IQ).2.2) cn.tick;have wR:(b.pools.set j {u with leases:=u.leases.filterMap (eU u p.root b.tick)})[i]? =some p:=by rw[Z7 (Ne.symm hij)];exact e2
     rw[f1]at qo;have QQ:decide ((j:Int)≥0)=true:=by simp
     rw[fS,ro (Lm cn.rise f2 (by rfl)) wR]at fI;replace aP:=Xj fI;clear fI fS hu cn hq hc wR f1 f2 f3 hij;have Vk:i≤b.pools.length:=by omega
     have hle2:i+1≤b.pools.length:=by omega
     have Rw:i+(b.pools.length - (i+1))≤b.pools.length:=by omega
     have Vl:i+min (b.pools.length - (i+1)) (b.pools.length - (i+1))≤b.pools.length:=by rw[Zq];exact Rw
     obtain⟨bB,ue,o9,hcut⟩:=So (ps:=b.pools.set j {u with leases:=u.leases.filterMap (eU u p.root b.tick)}) O8 (by simp);have II:0 < b.pools.length:=by omega
     repeat' (first|(with_reducible refine And.intro ?_ ?_)|(with_reducible refine cm (fun _=>?_) (fun _=>?_))|(with_reducible refine aA (fun _=>?_) (fun _=>?_))|(with_reducible refine be (by kernel_rfl))|simp -dsimp only[go_sem,seval, *,aS,ah,e2,YN,QQ,ux,bB,ue,o9,hcut,Yo,Xp,XI]|((with_reducible refine bf ?_);simp -dsimp only[go_sem,seval,aS,ah,e2,YN,QQ,ux,bB,ue,o9,hcut,Yo,Xp,XI];first|refine aC (by first|assumption|exact qo) (by first|exact .inl rfl|exact .inr rfl) ?_|(refine aB (by assumption) ?_ ?_ ?_;(solve|(repeat(first|exact ai.refl _|exact ai.nil _|(refine ai.tup ?_)|(refine ai.agg ?_ rfl)|exact trivial|(refine And.intro ?_ ?_))));(solve|exact .inl rfl|exact .inr rfl)))|(refine aX [] (gk) ?_ ?_ ?_ ?_ ?_ ?_;(solve|rfl|simp only[go_sem,seval,aS]);(solve|rfl);(solve|decide);(solve|simp);(solve|simp only[go_sem,seval,ax,aS]))|(refine aX [6,5] (I6) ?_ ?_ ?_ ?_ ?_ ?_;(solve|rfl|simp only[go_sem,seval,aN]);(solve|rfl);(solve|decide);(solve|simp);(solve|simp only[go_sem,seval,ax,aN]))|omega|exact decide_eq_true (by omega)|exact ai.refl _)
     all_goals clear hz bc cY qo gk bB ue hcut o9 I6
     rw[aP.out];first|done|exact ai.refl _
 ·have h1:(a9 b !=0)=true:=by simpa using hc
  have hr:R=(Bok.zero,a9 b):=by rw[hR.out];unfold fh;rw[if_pos hc]
  rw[hr];replace hr:=Xj hr;clear hR;refine pj func162 ntmps162 results162 ?_;refine am ?_<;>intros;exact dg
def nu (b:Bok)(t:Int)(k:Nat):List Pol:=(b.pools.take k).map (eS t)++b.pools.drop k
theorem H9 (b:Bok)(t:Int)(k:Nat)(hk:k≤b.pools.length):(nu b t k).length=b.pools.length:=by
 unfold nu;simp;omega
theorem Ia {b:Bok}{t:Int}{k:Nat}{p:Pol}(hp:b.pools[k]? =some p):(nu b t k)[k]? =some p:=by
 have hk:=(Xn.1 hp).1;unfold nu;rw[XK (by simp;omega)];simp only[XC,Xp,Yk];rw[show k+(k - min k b.pools.length)=k by omega,hp]
theorem Ib {b:Bok}{t:Int}{k:Nat}{p:Pol}(hp:b.pools[k]? =some p):(nu b t k).set k (eS t p)=nu b t (k+1):=by
 have hk:=(Xn.1 hp).1;unfold nu;rw[Yt _ _ (by simp;omega),ag hp,Xo,jo hp];simp only[XC,Xp];rw[show k - min k b.pools.length=0 by omega];simp
theorem EM {α:Type}{p:α→Bool}{l:List α}{k:Nat}{x:α}(h:l[k]? =some x):(l.take (k+1)).filter p=(l.take k).filter p++if p x then [x]else []:=by
 rw[ag h,YW];cases hp:p x<;>simp[hp]
theorem Lo (b:Bok)(n:Int)(hz:∀p∈b.pools,p.leases.length≤3518437208882):af prog 163 [.agg (aS b),.v (.int .i64 n)] (.tup [.agg (aS (iU b n).1),.v (.int .i64 (iU b n).2)]):=by
 obtain⟨R,hR⟩:∃R,R=iU b n:=⟨_,rfl⟩;rw[←hR];replace hR:=Xj hR;have bc:=gB b hz;by_cases hc:a9 b=0
 ·have cn:=dF hc;have h8:=cn.n8;have ht:=cn.tick;have hws:IntKind.i64.wrap (1073741824 - b.tick)=1073741824 - b.tick:=by rw[IntKind.wrap_i64];omega
  have ux:=ek n 1 (1073741824 - b.tick);rw[hc]at bc;by_cases hn:n < 1∨n>1073741824 - b.tick
  ·have hr:R=(Bok.zero,3):=by rw[hR.out];unfold iU;rw[if_neg (by simpa using hc),if_pos hn]
   have hd:(decide (1≤n)&&decide (n≤1073741824 - b.tick))=false:=by
    rcases hn with h|h
    ·simp;omega
    ·simp;omega
   rw[hr];rw[hd]at ux;clear hr hR hd hn cn hc;refine pj func163 ntmps163 results163 ?_;refine am ?_<;>intros;exact dg
  ·have hr:R=(⟨b.tick+n,b.pools.map (eS (b.tick+n))⟩,0):=by rw[hR.out];unfold iU;rw[if_neg (by simpa using hc),if_neg hn]
   have hd:(decide (1≤n)&&decide (n≤1073741824 - b.tick))=true:=by simp;omega
   have O3:IntKind.i64.wrap (b.tick+n)=b.tick+n:=by rw[IntKind.wrap_i64];omega
   have gk:=iE b cn.n8 cn.l32;have nG:=cn.l32;rw[hr];rw[hd]at ux;clear hr hR hd hn cn hc;refine pj func163 ntmps163 results163 ?_;have z1z:=Ln.mk (ls:=[]) (gk);refine am ?_<;>intros;refine qK ae ak b.pools.length (fun _=>True) (fun k=>[(8,.d (.v (.int .i64 k))),(7,.ptr 6 0),(5,.d (.v (.int .i64 0))),(4,.ptr 1 0)])
    (fun k=>[.box 24 ((aS b).map .d),.box 24 [.d (.v (.int .i64 0)),.d (.v (.slice none 0 0))],.gone,.gone,.gone,.row 62 9 b.pools.length (ab ((nu b (b.tick+n) k).map ah)),.box 24 [.d (.v (.int .i64 (b.tick+n))),.own 5 b.pools.length]]) trivial ?_ ?_ ?_
   ·exact wf (hh:=(by simp only[aS,nu,Z4,Xu,Ya,List.drop_zero];rfl))
   ·intro k hk _ C hC;obtain⟨p,hp⟩:∃p,b.pools[k]? =some p:=⟨_,Xk hk⟩;have dH:(k:Int) < (b.pools.length:Int):=by omega
    have cM:=wi k (by omega);have hg:=Ia (t:=b.tick+n) hp;have hs:=Ib (t:=b.tick+n) hp;have uw:=H9 b (b.tick+n) k (by omega);have iG:=nG p (Xl hp);rw[←hs]at hC;generalize nu b (b.tick+n) k=ps at*;have hks:k < ps.length:=by omega
    clear hs;refine am ?_<;>intros;refine bg ae ak p.leases (fun _=>True) (fun j=>[(10,.d (.v (.int .i64 j))),(9,.own 7 ((p.leases.take j).filter fun l=>!jP (b.tick+n) l).length),(8,.d (.v (.int .i64 k))),(7,.ptr 6 0),(5,.d (.v (.int .i64 0))),(4,.ptr 1 0)])
     (fun j=>[.box 24 ((aS b).map .d),.box 24 [.d (.v (.int .i64 0)),.d (.v (.slice none 0 0))],.gone,.gone,.gone,.row 62 9 b.pools.length (ab (ps.map ah)),.box 24 [.d (.v (.int .i64 (b.tick+n))),.own 5 b.pools.length],.row 68 5 ((p.leases.take j).filter fun l=>!jP (b.tick+n) l).length (ab (((p.leases.take j).filter fun l=>!jP (b.tick+n) l).map aV))]) trivial ?_ ?_ ?_
    ·refine(cS (by simp) 9 68 5 rfl).trans ?_;exact wf (hh:=(by simp only[aS];rfl))
    ·intro j l pf hj _ C hC;have ic:(j:Int) < (p.leases.length:Int):=by omega
     have j6:=wi j (by omega);have sY:=EM (p:=fun l=>!jP (b.tick+n) l) pf;have pF:((p.leases.take j).filter fun l=>!jP (b.tick+n) l).length≤j:=Yy (Za _ _) (by rw[Xp];omega);rw[sY]at hC;generalize (p.leases.take j).filter (fun l=>!jP (b.tick+n) l)=out at*;have i7:out.length+1≤100:=by omega
     have ee:jP (b.tick+n) l=((l.kind==3)&&decide (l.till≤b.tick+n)):=rfl;replace ee:=Xj ee;clear sY;cases ho:jP (b.tick+n) l;all_goals
      rw[ho]at hC;have ee:=ee.out;rw[ho]at ee;replace ee:=Xj ee;simp only[Bool.not_false,Z0,YB,if_true,if_false,Yv]at hC;replace ho:=Xj ho;refine zO ?_ ?_ ?_<;>intros;all_goals first
       |(exfalso;have:=ee.out;clear hC;grind)
       |exact hC _ _ trivial (wf (hh:=(by simp only[aS,aV,Xo,Xm,Xu,XY,XA,XZ];rfl)) (he:=(by(repeat' (first|exact trivial|(refine⟨?_,?_⟩)|rfl|(simp only[XY,XA,XZ];rfl))))))
    ·intro _ C1;(try rw[Xt])
     refine am ?_<;>intros;refine hC _ _ trivial ((ap 7 _ 68 5 _ rfl).trans ?_);simp only[iu,fz,gr,f7,gV,f5,aR,bR,bW,Xm,Xu,XM,XL,reduceIte,and_true,true_and,and_self,and_false,false_and,XG,XW,reduceCtorEq,FA];exact wf (x:=[.gone]) (hh:=(by rw[←bO];rfl))
   ·intro _ C;have he:nu b (b.tick+n) b.pools.length=b.pools.map (eS (b.tick+n)):=by unfold nu;simp
    rw[he];repeat' (first|(with_reducible refine And.intro ?_ ?_)|(with_reducible refine cm (fun _=>?_) (fun _=>?_))|(with_reducible refine aA (fun _=>?_) (fun _=>?_))|(with_reducible refine be (by kernel_rfl))|simp -dsimp only[go_sem,seval, *,aS,YN,XC]|((with_reducible refine bf ?_);simp -dsimp only[go_sem,seval,aS,YN,XC];first|refine aC (by first|assumption|fail) (by first|exact .inl rfl|exact .inr rfl) ?_|(refine aB (by assumption) ?_ ?_ ?_;(solve|(repeat(first|exact ai.refl _|exact ai.nil _|(refine ai.tup ?_)|(refine ai.agg ?_ rfl)|exact trivial|(refine And.intro ?_ ?_))));(solve|exact .inl rfl|exact .inr rfl)))|fail|omega|exact decide_eq_true (by omega)|exact ai.refl _)
 ·have h1:(a9 b !=0)=true:=by simpa using hc
  have hr:R=(Bok.zero,a9 b):=by rw[hR.out];unfold iU;rw[if_pos hc]
  rw[hr];replace hr:=Xj hr;clear hR;refine pj func163 ntmps163 results163 ?_;refine am ?_<;>intros;exact dg
def k9 (b:Bok):Prop:=b.pools.length≤1000000000∧∀p∈b.pools,p.leases.length≤1000000000
theorem CD (b:Bok)(hs:k9 b):af prog 41 [.agg (aS b),.agg (aS b)] (.v (.bool true)):=by
 have hl:=hs.1;refine pj func41 ntmps41 results41 ?_;refine am ?_<;>intros;refine bg ae ak b.pools (fun _=>True) (fun k=>[(5,.d (.v (.int .i64 k))),(4,.d (.v (.bool false))),(3,.ptr 1 0),(2,.ptr 0 0)]) (fun _=>[.box 24 ((aS b).map .d),.box 24 ((aS b).map .d)]) trivial (wf) ?_ ?_
 ·intro k p hp hk _ C hC;have dH:(k:Int) < (b.pools.length:Int):=by omega
  have cM:=wi k (by omega);have iG:=hs.2 p (Xl hp);refine am ?_<;>intros;refine bg ae ak p.leases (fun _=>True) (fun j=>[(8,.d (.v (.int .i64 j))),(7,.ptr 3 0),(6,.ptr 2 0),(5,.d (.v (.int .i64 k))),(4,.d (.v (.bool false))),(3,.ptr 1 0),(2,.ptr 0 0)]) (fun _=>[.box 24 ((aS b).map .d),.box 24 ((aS b).map .d),.box 62 ((ah p).map .d),.box 62 ((ah p).map .d)]) trivial (wf) ?_ ?_
  ·intro j l pf hj _ C hC;have ic:(j:Int) < (p.leases.length:Int):=by omega
   have j6:=wi j (by omega);refine am ?_<;>intros;exact hC _ _ trivial (wf)
  ·intro _ C;refine am ?_<;>intros;exact hC _ _ trivial (wf)
 ·intro _ C;exact aZ
@[go_sem] def Lp:Rul:=⟨8,16,12,3⟩
theorem Ot:af prog 86 [] (.agg (pi Lp)):=by
 refine pj func86 ntmps86 results86 ?_;exact aZ
theorem bS:k9 Bok.zero:=⟨XD _,fun p hp=>by simp[Bok.zero]at hp⟩
theorem mD {b:Bok}(h:BookOK b):b.pools.length≤8∧∀p∈b.pools,p.leases.length≤32:=⟨h.n8,h.l32⟩
theorem CE (p:Pol)(ps:List Pol):(kY p ps).length=ps.length+1:=by
 have:=oX (fun x:Pol=>x.id) p.id ps;unfold kY;simp;omega
theorem CF {p q:Pol}{ps:List Pol}(h:q∈kY p ps):q=p∨q∈ps:=by
 unfold kY at h;simp only[X2,X7]at h;rcases h with h|h|h
 ·exact .inr (Yg h)
 ·exact .inl h
 ·exact .inr (Yd h)
theorem CG (l:Lse)(ls:List Lse):(gZ l ls).length=ls.length+1:=by
 have:=oX (fun x:Lse=>x.at_.at_) l.at_.at_ ls;unfold gZ;simp;omega
theorem yU (p:Pol)(i:Nat)(t:Int):(jO p i t).length≤p.leases.length:=by
 unfold jO;split
 ·rw[Z8];split<;>omega
 ·split
  ·rw[YV];exact XB _
  ·exact XB _
theorem nf {b:Bok}{id:Int}{f:Pol→Pol}(h:b.pools.length≤8)(h2:∀p∈b.pools,p.leases.length≤32∧(f p).leases.length≤33):(rg b id f).pools.length≤8∧∀p∈(rg b id f).pools,p.leases.length≤33:=by
 unfold rg;refine⟨by simpa using h,fun p hp=>?_⟩;obtain⟨q,hq,rfl⟩:=XQ.1 hp;split
 ·exact(h2 q hq).2
 ·have:=(h2 q hq).1;omega
theorem yV {b:Bok}{id:Int}{f:Pol→Pol}(h:(rg b id f).pools.length≤8∧∀p∈(rg b id f).pools,p.leases.length≤33):k9 (rg b id f):=⟨by have:=h.1;omega,fun q hq=>by have:=h.2 q hq;omega⟩
theorem Ic {b:Bok}{t:Int}{p:Pol}(h:b.pools.length≤8∧∀p∈b.pools,p.leases.length≤33)(hp:p.leases=[]):k9 ⟨t,kY p b.pools⟩:=⟨by simp only[CE];omega,fun q hq=>by
 rcases CF hq with rfl|hq
 ·rw[hp];exact XD _
 ·have:=h.2 q hq;omega⟩
theorem CH (b:Bok)(id:Int)(root:Pfx)(r:Rul):k9 (fO b id root r).1:=by
 unfold fO;split
 ·exact bS
 ·rename_i hc;have hk:=mD (dF (by simpa using hc));split
  ·exact bS
  ·refine⟨by simp only[CE];omega,fun p hp=>?_⟩;rcases CF hp with rfl|hp
   ·exact XD _
   ·have:=hk.2 p hp;omega
theorem CJ (b:Bok)(id up size:Int)(r:Rul):k9 (fP b id up size r).1:=by
 unfold fP;split
 ·exact bS
 ·rename_i hc;have hk:=mD (dF (by simpa using hc));split
  ·exact bS
  ·split
   ·exact bS
   ·split
    ·exact bS
    ·split
     ·exact bS
     ·split
      ·exact bS
      ·split
       ·exact bS
       ·exact Ic (nf hk.1 (fun q hq=>⟨hk.2 q hq,by simp only[CG];have:=hk.2 q hq;omega⟩)) rfl
theorem tH (b:Bok)(id size owner:Int):k9 (cO b id size owner).1:=by
 unfold cO;split
 ·exact bS
 ·rename_i hc;have hk:=mD (dF (by simpa using hc));split
  ·exact bS
  ·split
   ·exact bS
   ·rename_i p _ _;generalize cz p (if size=0 then p.rule.usual else size)=F;simp only;split
    ·exact bS
    ·exact yV (nf hk.1 (fun q hq=>⟨hk.2 q hq,by simp only[CG];have:=hk.2 q hq;omega⟩))
theorem tI (b:Bok)(id:Int)(at_:Pfx):k9 (fg b id at_).1:=by
 unfold fg;split
 ·exact bS
 ·rename_i hc;have hk:=mD (dF (by simpa using hc));split
  ·exact bS
  ·split
   ·exact bS
   ·rename_i i _;exact yV (nf hk.1 (fun q hq=>⟨hk.2 q hq,by have:=hk.2 q hq;have:=yU q i b.tick;simp only;omega⟩))
theorem Ah (b:Bok)(id:Int):k9 (fh b id).1:=by
 unfold fh;split
 ·exact bS
 ·rename_i hc;have hk:=mD (dF (by simpa using hc));split
  ·exact bS
  ·split
   ·exact bS
   ·rename_i p _ _;have fS:(il b p).length≤8∧∀q∈il b p,q.leases.length≤33:=by
     unfold il;split
     ·exact⟨hk.1,fun q hq=>by have:=hk.2 q hq;omega⟩
     ·split
      ·rename_i u _ _ i _;exact nf (b:=b) (id:=u.id) (f:=fun q=>{q with leases:=jO q i b.tick}) hk.1 (fun q hq=>⟨hk.2 q hq,by have:=hk.2 q hq;have:=yU q i b.tick;simp only;omega⟩)
      ·exact⟨hk.1,fun q hq=>by have:=hk.2 q hq;omega⟩
    exact⟨by have:=Za (fun q:Pol=>!(q.id==id)) (il b p);simp only;omega,fun q hq=>by have:=fS.2 q (Zt.1 hq).1;omega⟩
theorem CK (b:Bok)(n:Int):k9 (iU b n).1:=by
 unfold iU;split
 ·exact bS
 ·rename_i hc;have hk:=mD (dF (by simpa using hc));split
  ·exact bS
  ·refine⟨by simp only[XC];omega,fun q hq=>?_⟩;obtain⟨p,hp,rfl⟩:=XQ.1 hq;have:=hk.2 p hp;have:=Za (fun l=>!jP (b.tick+n) l) p.leases;simp only[eS];omega
def EN (s:Sbn):Prop:=s.faces.length≤1000000000∧∀f∈s.faces,f.addrs.length≤1000000000
def ng (v:Vpc):Prop:=v.ranges.length≤1000000000∧v.subs.length≤1000000000∧∀s∈v.subs,EN s
theorem bC:ng Vpc.zero:=⟨XD _,XD _,fun s h=>by simp[Vpc.zero]at h⟩
theorem o3 {v:Vpc}(h:VpcOK v):∀s∈v.subs,EN s:=fun s hs=>⟨by have:=(h.n8 s hs).1;omega,fun f hf=>by have:=(h.n8 s hs).2 f hf;omega⟩
theorem qe {v:Vpc}(h:VpcOK v){i:Nat}{s:Sbn}(hs:EN s):ng {v with subs:=v.subs.set i s}:=⟨by have:=h.n4;show v.ranges.length≤_;omega,by have:=h.n6;show (v.subs.set i s).length≤_;rw[YV];omega,fun t ht=>by
 rcases Y4 ht with ht|rfl
 ·exact o3 h t ht
 ·exact hs⟩
theorem CM (v:Vpc)(p:Pfx):ng (dM v p).1:=by
 unfold dM;split
 ·exact bC
 ·rename_i hc;have hk:=aY (by simpa using hc);split
  ·exact bC
  ·split
   ·exact bC
   ·exact⟨by have:=hk.n4;show (v.ranges.eraseIdx _).length≤_;rw[Z8];split<;>omega,by have:=hk.n6;show v.subs.length≤_;omega,fun s hs=>o3 hk s hs⟩
theorem EO (v:Vpc)(id:Int)(p:Pfx):ng (nD v id p).1:=by
 unfold nD;split
 ·exact bC
 ·rename_i hc;have hk:=aY (by simpa using hc);split
  ·exact bC
  ·refine⟨by have:=hk.n4;show v.ranges.length≤_;omega,by have:=hk.n6;show (df _ _ v.subs).length≤_;rw[fe];omega,fun s hs=>?_⟩;rcases mn.1 hs with rfl|hs
   ·exact⟨XD _,fun f hf=>by simp at hf⟩
   ·exact o3 hk s hs
theorem Ai (v:Vpc)(id:Int):ng (fk v id).1:=by
 unfold fk;split
 ·exact bC
 ·rename_i hc;have hk:=aY (by simpa using hc);split
  ·exact bC
  ·split
   ·exact bC
   ·exact⟨by have:=hk.n4;show v.ranges.length≤_;omega,by have:=hk.n6;show (v.subs.eraseIdx _).length≤_;rw[Z8];split<;>omega,fun s hs=>o3 hk s (List.mem_of_mem_eraseIdx hs)⟩
theorem CP (v:Vpc)(sub id:Int):ng (gA v sub id).1:=by
 unfold gA;split
 ·exact bC
 ·rename_i hc;have hk:=aY (by simpa using hc);split
  ·exact bC
  ·split
   ·exact bC
   ·rename_i s hs;have h8:=hk.n8 s (Xl hs);split
    ·exact bC
    ·refine qe hk ⟨by show (df _ _ s.faces).length≤_;rw[fe];omega,fun f hf=>?_⟩;rcases mn.1 hf with rfl|hf
     ·show 1≤1000000000;omega
     ·have:=h8.2 f hf;omega
theorem xD (v:Vpc)(sub id:Int):ng (dU v sub id).1:=by
 unfold dU;split
 ·exact bC
 ·rename_i hc;have hk:=aY (by simpa using hc);split
  ·exact bC
  ·split
   ·exact bC
   ·rename_i s hs;have h8:=hk.n8 s (Xl hs);split
    ·exact bC
    ·exact qe hk ⟨by show (s.faces.eraseIdx _).length≤_;rw[Z8];split<;>omega,fun f hf=>by have:=h8.2 f (List.mem_of_mem_eraseIdx hf);omega⟩
theorem CQ (v:Vpc)(sub id:Int):ng (gh v sub id).1:=by
 unfold gh;split
 ·exact bC
 ·rename_i hc;have hk:=aY (by simpa using hc);split
  ·exact bC
  ·split
   ·exact bC
   ·rename_i s hs;have h8:=hk.n8 s (Xl hs);split
    ·exact bC
    ·split
     ·exact bC
     ·rename_i f hf;have gS:=h8.2 f (Xl hf);split
      ·exact bC
      ·split
       ·exact bC
       ·refine qe hk ⟨by show (s.faces.set _ _).length≤_;rw[YV];omega,fun g hg=>?_⟩;rcases Y4 hg with hg|rfl
        ·have:=h8.2 g hg;omega
        ·show (df _ _ f.addrs).length≤_;rw[fe];omega
theorem gJ (n:Net)(id:Int)(hl:n.vpcs.length≤1000000000):af prog 24 [.agg (aK n),.v (.int .i64 id)] (.v (.int .i64 (cv (fun v=>v.id==id) n.vpcs))):=by
 refine pj func24 ntmps24 results24 ?_;refine am ?_<;>intros;refine bg ae ak n.vpcs (fun k=>(n.vpcs.take k).all (fun v=>!(v.id==id))=true) (fun k=>[(5,.d (.v (.int .i64 k))),(4,.d (.v (.int .i64 0))),(2,.ptr 0 0),(1,.d (.v (.int .i64 id)))]) (fun _=>[.box 28 ((aK n).map .d)]) rfl (wf) ?_ ?_
 ·intro k p hp hk hI C hC;have dH:(k:Int) < (n.vpcs.length:Int):=by omega
  have cM:=wi k (by omega);replace hI:=Xj hI;refine wX ?_ ?_<;>intros
  ·rename_i h1;exact qV (vx hp (by simpa using h1) hI.out).symm
  ·rename_i h1;exact hC _ _ (d7 hp hI.out (by simpa using h1)) (wf)
 ·intro hI C;replace hI:=Xj hI;refine am ?_<;>intros;exact qV (zS hI.out).symm
theorem jR (n:Net)(id:Int):cv (fun v=>v.id==id) n.vpcs=match eO n id with|some i=>(i:Int)|none=> -1:=rfl
def jB (n:Net)(a b:Int):Bool:=n.links.any fun y=>decide (y=fC a b)
theorem sK (n:Net)(a b:Int)(hl:n.links.length≤1000000000):af prog 165 [.agg (aK n),.v (.int .i64 a),.v (.int .i64 b)] (.v (.bool (jB n a b))):=by
 obtain⟨R,hR⟩:∃R,R=jB n a b:=⟨_,rfl⟩;rw[←hR];replace hR:=Xj hR;refine pj func165 ntmps165 results165 ?_;refine am ?_<;>intros;refine bg ae ak n.links (fun k=>(n.links.take k).all (fun y=>!decide (y=fC a b))=true) (fun k=>[(7,.d (.v (.int .i64 k))),(6,.d (.v (.bool false))),(3,.ptr 0 0),(2,.d (.v (.int .i64 b))),(1,.d (.v (.int .i64 a)))]) (fun _=>[.box 28 ((aK n).map .d)]) rfl (wf) ?_ ?_
 ·intro k p hp hk hI C hC;have dH:(k:Int) < (n.links.length:Int):=by omega
  have cM:=wi k (by omega);have he:([p.a,p.b]==[if b < a then b else a,if a < b then b else a])=decide (p=fC a b):=v4 p (fC a b);have Fp:decide (p=fC a b)=true→R=true:=fun h=>by rw[hR.out];exact XU.2 ⟨p,Xl hp,h⟩
  have cf:decide (p=fC a b)=false→(n.links.take (k+1)).all (fun y=>!decide (y=fC a b))=true:=fun h=>d7 hp hI (by simpa using h);generalize decide (p=fC a b)=t at*;replace hI:=Xj hI;replace Fp:=Xj Fp;replace cf:=Xj cf;cases t with
  |true=>
   have hr:=Fp.out rfl;rw[hr];replace hr:=Xj hr;exact aZ;all_goals exact ai.refl _
  |false=>
   refine am ?_<;>intros;exact hC _ _ (cf.out rfl) (wf)
 ·intro hI C;have hr:R=false:=by
   rw[hR.out];unfold jB;rw[Xt,XE]at hI;rw[Yh];intro y hy;have:=hI y hy;simpa using this
  rw[hr];replace hr:=Xj hr;replace hI:=Xj hI;exact aZ;all_goals exact ai.refl _
theorem CR (v w:Vpc)(hv:v.ranges.length≤1000000000)(hw:w.ranges.length≤1000000000):af prog 109 [.agg (al v),.agg (al w)] (.v (.bool (dE v w))):=by
 obtain⟨R,hR⟩:∃R,R=dE v w:=⟨_,rfl⟩;rw[←hR];replace hR:=Xj hR;refine pj func109 ntmps109 results109 ?_;refine am ?_<;>intros;refine bg ae ak v.ranges (fun k=>(v.ranges.take k).all (fun r=>!(w.ranges.any fun q=>r.at_.meets q.at_))=true) (fun k=>[(5,.d (.v (.int .i64 k))),(4,.d (.v (.bool false))),(3,.ptr 1 0),(2,.ptr 0 0)]) (fun _=>[.box 55 ((al v).map .d),.box 55 ((al w).map .d)]) rfl (wf) ?_ ?_
 ·intro k r RL hk hI C hC;have dH:(k:Int) < (v.ranges.length:Int):=by omega
  have cM:=wi k (by omega);have Mz:(w.ranges.any fun q=>r.at_.meets q.at_)=false→(v.ranges.take (k+1)).all (fun r=>!(w.ranges.any fun q=>r.at_.meets q.at_))=true:=fun h=>d7 RL hI (by rw[h];rfl);have Fp:(w.ranges.any fun q=>r.at_.meets q.at_)=true→R=true:=fun h=>by rw[hR.out];exact XU.2 ⟨r,Xl RL,h⟩
  replace hI:=Xj hI;replace Mz:=Xj Mz;replace Fp:=Xj Fp;refine am ?_<;>intros;refine bg ae ak w.ranges (fun j=>(w.ranges.take j).all (fun q=>!(r.at_.meets q.at_))=true) (fun j=>[(6,.d (.v (.int .i64 j))),(5,.d (.v (.int .i64 k))),(4,.d (.v (.bool false))),(3,.ptr 1 0),(2,.ptr 0 0)]) (fun _=>[.box 55 ((al v).map .d),.box 55 ((al w).map .d)]) rfl (wf) ?_ ?_
  ·intro j q hq hj hJ C2 jz;have ic:(j:Int) < (w.ranges.length:Int):=by omega
   have j6:=wi j (by omega);have nH:=pW r.at_ q.at_;rw[eZ]at nH;cases b:r.at_.meets q.at_ with
   |true=>
    have hr:=Fp.out (XU.2 ⟨q,Xl hq,b⟩);rw[b]at nH;rw[hr];replace hr:=Xj hr;replace hJ:=Xj hJ;exact aZ;all_goals exact ai.refl _
   |false=>
    rw[b]at nH;have hn:=d7 hq hJ (by rw[b];rfl);replace hn:=Xj hn;replace hJ:=Xj hJ;refine am ?_<;>intros;exact jz _ _ hn.out (wf)
  ·intro hJ C2;have hn:=Mz.out (by
    rw[Xt,XE]at hJ;rw[Yh];intro q hq;have:=hJ q hq;simpa using this)
   replace hJ:=Xj hJ;replace hn:=Xj hn;refine am ?_<;>intros;exact hC _ _ hn.out (wf)
 ·intro hI C;have hr:R=false:=by
   rw[hR.out];rw[Xt,XE]at hI;unfold dE;rw[Yh];intro y hy;have:=hI y hy;simpa using this
  rw[hr];replace hr:=Xj hr;replace hI:=Xj hI;exact aZ;all_goals exact ai.refl _
def tJ (lk:Nat→Nat→Bool)(i k:Nat)(l:List Bool):List Bool:=l.set k (l.getD k false||(l.getD i false&&lk i k))
def qf (lk:Nat→Nat→Bool)(l:List Bool)(i:Nat):Nat→List Bool
 |0=>l
 |k+1=>tJ lk i k (qf lk l i k)
def iF (lk:Nat→Nat→Bool)(l:List Bool):Nat→List Bool
 |0=>l
 |i+1=>qf lk (iF lk l i) i l.length
def dG (lk:Nat→Nat→Bool)(l:List Bool):Nat→List Bool
 |0=>l
 |t+1=>iF lk (dG lk l t) l.length
def CS:List Bool→List Bool→Prop
 |[],[]=>True
 |a::l,b::m=>(a=true→b=true)∧CS l m
 |_,_=>False
theorem oC:∀l,CS l l
 |[]=>trivial
 |_::l=>⟨id,oC l⟩
theorem o4:∀{l m k:List Bool},CS l m→CS m k→CS l k
 |[],[],[],_,_=>trivial
 |_::_,_::_,_::_,⟨h1,h2⟩,⟨g1,g2⟩=>⟨fun h=>g1 (h1 h),o4 h2 g2⟩
theorem oD:∀{l m:List Bool},CS l m→CS m l→l=m
 |[],[],_,_=>rfl
 |a::l,b::m,⟨h1,h2⟩,⟨g1,g2⟩=>by
  rw[oD h2 g2];cases a<;>cases b<;>simp_all
theorem rq:∀{l m:List Bool},CS l m→m.length=l.length
 |[],[],_=>rfl
 |_::_,_::_,⟨_,h⟩=>by simp[rq h]
theorem Gf:∀{l m:List Bool},CS l m→∀{k},l.getD k false=true→m.getD k false=true
 |[],[],_,_,h=>h
 |_::_,_::_,⟨h1,_⟩,0,h=>by simpa using h1 (by simpa using h)
 |_::_,_::_,⟨_,h2⟩,k+1,h=>by simpa using Gf h2 (k:=k) (by simpa using h)
theorem yW:∀{l m:List Bool},CS l m→l=m∨l.count true < m.count true
 |[],[],_=> .inl rfl
 |a::l,b::m,⟨h1,h2⟩=>by
  rcases yW h2 with rfl|h
  ·cases a<;>cases b<;>simp_all
  ·right;cases a<;>cases b<;>simp_all<;>omega
theorem Gg:∀(l:List Bool) (k:Nat) (b:Bool),CS l (l.set k (l.getD k false||b))
 |[],_,_=>by simp[CS]
 |a::l,0,b=>by simp only[Xv,List.getD_cons_zero];exact⟨fun h=>by simp[h],oC l⟩
 |a::l,k+1,b=>by simp only[Xx,List.getD_cons_succ];exact⟨id,Gg l k b⟩
section
variable (lk:Nat→Nat→Bool)
theorem Lq (i k:Nat)(l:List Bool):CS l (tJ lk i k l):=Gg l k _
theorem nh (l:List Bool)(i:Nat):∀k d,CS (qf lk l i k) (qf lk l i (k+d))
 |_,0=>oC _
 |k,d+1=>o4 (nh l i k d) (Lq lk i (k+d) _)
theorem jS (l:List Bool):∀i d,CS (iF lk l i) (iF lk l (i+d))
 |_,0=>oC _
 |i,d+1=>o4 (jS l i d) (by have:=nh lk (iF lk l (i+d)) (i+d) 0 l.length;rw[XG]at this;exact this)
theorem CU (l:List Bool)(i:Nat):(iF lk l i).length=l.length:=rq (by have:=jS lk l 0 i;rw[XG]at this;exact this)
theorem CV (l:List Bool)(i k:Nat):(qf lk l i k).length=l.length:=rq (by have:=nh lk l i 0 k;rw[XG]at this;exact this)
theorem o5 (l:List Bool):∀t,CS l (dG lk l t)
 |0=>oC _
 |t+1=>o4 (o5 l t) (by have h:=rq (o5 l t);have:=jS lk (dG lk l t) 0 l.length;rw[XG]at this;exact this)
theorem oE (l:List Bool)(t:Nat):(dG lk l t).length=l.length:=rq (o5 lk l t)
theorem Ls {l:List Bool}(h:iF lk l l.length=l){i k:Nat}(hi:i < l.length)(hk:k < l.length)(h1:l.getD i false=true)(h2:lk i k=true):l.getD k false=true:=by
 have a1:=jS lk l 0 i;have a2:=jS lk l i (l.length - i);rw[XG]at a1;rw[show i+(l.length - i)=l.length by omega,h]at a2;have e1:iF lk l i=l:=oD a2 a1;have a3:=jS lk l i 1;have a4:=jS lk l (i+1) (l.length - (i+1));rw[show i+1+(l.length - (i+1))=l.length by omega,h]at a4;have e2:iF lk l (i+1)=l:=by rw[e1]at a3;exact oD a4 a3
 simp only[iF,e1]at e2;have b1:=nh lk l i 0 k;have b2:=nh lk l i k (l.length - k);rw[XG]at b1;rw[show k+(l.length - k)=l.length by omega,e2]at b2;have e3:qf lk l i k=l:=oD b2 b1;have b3:=nh lk l i k 1;have b4:=nh lk l i (k+1) (l.length - (k+1));rw[show k+1+(l.length - (k+1))=l.length by omega,e2]at b4;have e4:qf lk l i (k+1)=l:=by rw[e3]at b3;exact oD b4 b3
 simp only[qf,e3,tJ]at e4;rw[←e4,h1,h2];simp[XJ,hk]
theorem yX (l:List Bool)(hc:0 < l.count true):∀t,iF lk (dG lk l t) l.length=dG lk l t∨t < (dG lk l t).count true
 |0=> .inr hc
 |t+1=>by
  rcases yX l hc t with h|h
  ·left;simp only[dG,h]
  ·have hl:=oE lk l t;have hle:=jS lk (dG lk l t) 0 l.length;rw[XG]at hle;rcases yW (show CS (dG lk l t) (dG lk l (t+1)) from hle)with he|he
   ·left;have e2:dG lk l (t+1)=iF lk (dG lk l t) l.length:=rfl;rw[←he];rw[←e2,←he]
   ·right;omega
theorem Aj (l:List Bool)(hc:0 < l.count true){i k:Nat}(hi:i < l.length)(hk:k < l.length)(h1:(dG lk l l.length).getD i false=true)(h2:lk i k=true):(dG lk l l.length).getD k false=true:=by
 have hl:=oE lk l l.length;rcases yX lk l hc l.length with h|h
 ·exact Ls lk (by rw[hl];exact h) (by rw[hl];exact hi) (by rw[hl];exact hk) h1 h2
 ·have:=List.count_le_length (a:=true) (l:=dG lk l l.length);omega
theorem Lt {G:Nat→Prop}(hG:∀i k,G i→lk i k=true→G k){l:List Bool}(h:∀k,l.getD k false=true→G k)(i k:Nat):∀j,(tJ lk i k l).getD j false=true→G j:=by
 intro j hj;unfold tJ at hj;rw[XJ,Z3]at hj;split at hj
 ·rename_i e;subst e;split at hj
  ·simp only[YI,Bool.or_eq_true,Xy]at hj;rcases hj with hj|hj
   ·exact h _ hj
   ·exact hG i k (h _ hj.1) hj.2
  ·simp at hj
 ·exact h j (by rw[XJ];exact hj)
theorem Gh {G:Nat→Prop}(hG:∀i k,G i→lk i k=true→G k){l:List Bool}(h:∀k,l.getD k false=true→G k)(i:Nat):∀k j,(qf lk l i k).getD j false=true→G j
 |0=>h
 |k+1=>Lt lk hG (Gh hG h i k) i k
theorem CW {G:Nat→Prop}(hG:∀i k,G i→lk i k=true→G k){l:List Bool}(h:∀k,l.getD k false=true→G k):∀i j,(iF lk l i).getD j false=true→G j
 |0=>h
 |i+1=>Gh lk hG (CW hG h i) i _
theorem yY {G:Nat→Prop}(hG:∀i k,G i→lk i k=true→G k){l:List Bool}(h:∀k,l.getD k false=true→G k):∀t j,(dG lk l t).getD j false=true→G j
 |0=>h
 |t+1=>CW lk hG (yY hG h t) _
end
def fr (L:List Lnk):Int→Int:=L.foldl fM (fun x=>x)
theorem EP {F:Int→Int}{x y:Int}(h:F x=F y)(l:Lnk):fM F l x=fM F l y:=by unfold fM;rw[h]
theorem we {x y:Int}:∀(L:List Lnk) (F:Int→Int),F x=F y→L.foldl fM F x=L.foldl fM F y
 |[],_,h=>h
 |l::L,F,h=>we L _ (EP h l)
theorem wg {l:Lnk}:∀(L:List Lnk) (F:Int→Int),l∈L→L.foldl fM F l.a=L.foldl fM F l.b
 |m::L,F,h=>by
  rcases X7.1 h with rfl|h
  ·refine we L _ ?_;unfold fM;rw[if_pos rfl];split<;>rfl
  ·exact wg L _ h
theorem wh {L:List Lnk}{l:Lnk}(h:l∈L):fr L l.a=fr L l.b:=wg L _ h
theorem tK {S:Int→Prop}:∀(L:List Lnk) (F:Int→Int),(∀l∈L,S l.a↔S l.b)→(∀x y,F x=F y→(S x↔S y))→∀x y,L.foldl fM F x=L.foldl fM F y→(S x↔S y)
 |[],_,_,hF,x,y,h=>hF x y h
 |l::L,F,hL,hF,x,y,h=>by
  refine tK L (fM F l) (fun m hm=>hL m (Zc _ hm)) (fun u v MA=>?_) x y h;have hl:=hL l (by simp);unfold fM at MA;by_cases h1:F u=F l.b
  ·by_cases h2:F v=F l.b
   ·exact hF u v (h1.trans h2.symm)
   ·rw[if_pos h1,if_neg h2]at MA;exact(hF u l.b h1).trans (hl.symm.trans (hF l.a v MA))
  ·by_cases h2:F v=F l.b
   ·rw[if_neg h1,if_pos h2]at MA;exact(hF u l.a MA).trans (hl.trans (hF v l.b h2).symm)
   ·rw[if_neg h1,if_neg h2]at MA;exact hF u v MA
theorem tL {S:Int→Prop}{L:List Lnk}(hL:∀l∈L,S l.a↔S l.b){x y:Int}(h:fr L x=fr L y):S x↔S y:=
 tK L _ hL (fun x y h=>by rw[h]) x y h
theorem EQ {L M:List Lnk}(h:∀l,l∈L↔l∈M){x y:Int}:fr L x=fr L y↔fr M x=fr M y:=by
 have key:∀{L M:List Lnk},(∀l,l∈L↔l∈M)→fr L x=fr L y→fr M x=fr M y:=fun {L M} h e=>
  ((tL (S:=fun z=>fr M z=fr M y) (L:=L) (fun l hl=>by
   have:=wh ((h l).1 hl);rw[this]) e).2 rfl)
 exact⟨key h,key fun l=>(h l).symm⟩
theorem ER (L:List Lnk)(l:Lnk):fr (L++[l])=fM (fr L) l:=by unfold fr;rw[Zn];rfl
theorem Ie {F:Int→Int}{l:Lnk}{x y:Int}:fM F l x=fM F l y↔F x=F y∨(F x=F l.a∧F y=F l.b)∨(F x=F l.b∧F y=F l.a):=by
 unfold fM;by_cases h1:F x=F l.b<;>by_cases h2:F y=F l.b
 ·rw[if_pos h1,if_pos h2];simp[h1,h2]
 ·rw[if_pos h1,if_neg h2];constructor
  ·intro h;exact .inr (.inr ⟨h1,h.symm⟩)
  ·rintro (h|h|h)
   ·exact absurd (h.symm.trans h1) h2
   ·exact absurd h.2 h2
   ·exact h.2.symm
 ·rw[if_neg h1,if_pos h2];constructor
  ·intro h;exact .inr (.inl ⟨h,h2⟩)
  ·rintro (h|h|h)
   ·exact absurd (h.trans h2) h1
   ·exact h.1
   ·exact absurd h.1 h1
 ·rw[if_neg h1,if_neg h2];constructor
  ·intro h;exact .inl h
  ·rintro (h|h|h)
   ·exact h
   ·exact absurd h.2 h2
   ·exact absurd h.1 h1
theorem Lu {l:Lnk}(h:l.a < l.b):fC l.a l.b=l∧fC l.b l.a=l:=by
 unfold fC;rw[if_neg (by omega),if_pos h,if_pos h,if_neg (by omega)];exact⟨rfl,rfl⟩
theorem Lv {L:List Lnk}{a b:Int}(h:fC a b∈L):fr L a=fr L b:=by
 have:=wh h;unfold fC at this;by_cases h1:b < a
 ·rw[if_pos h1,if_neg (by omega)]at this;exact this.symm
 ·rw[if_neg h1]at this;split at this
  ·exact this
  ·have:a=b:=by omega
   rw[this]
def MJ (L:List Lnk)(ids:List Int)(i k:Nat):Bool:=decide (fC (ids.getD i 0) (ids.getD k 0)∈L)
theorem CX {L:List Lnk}{ids:List Int}(hn:ids.Nodup)(hl:∀l∈L,l.a∈ids∧l.b∈ids∧l.a < l.b){i k:Nat}(hi:i < ids.length)(hk:k < ids.length):
 (dG (MJ L ids) ((XV ids.length false).set i true) ids.length).getD k false=(fr L (ids.getD k 0)==fr L (ids.getD i 0)):=by
 have bT:((XV ids.length false).set i true).length=ids.length:=by simp
 have pm:0 < ((XV ids.length false).set i true).count true:=by
  rw[List.count_pos_iff,X0];exact⟨i,by simpa using hi,by simp⟩
 have Vm:∀j,((XV ids.length false).set i true).getD j false=true→j=i:=by
  intro j hj;rw[XJ,Z3]at hj;split at hj
  ·rename_i e;exact e.symm
  ·rw[ZX]at hj;split at hj<;>simp at hj
 have fS:=fun(i k:Nat)=>Aj (MJ L ids) _ pm (i:=i) (k:=k);rw[bT]at fS;rw[Yi,beq_iff_eq];constructor
 ·intro h;exact yY (MJ L ids) (G:=fun j=>fr L (ids.getD j 0)=fr L (ids.getD i 0)) (fun u v hu MA=>by
   unfold MJ at MA;rw[decide_eq_true_eq]at MA;show fr L _=_;rw[←Lv MA];exact hu) (fun j hj=>by rw[Vm j hj]) _ k h
 ·intro h;have fR:∀x∈ids,∃j,j < ids.length∧ids.getD j 0=x:=fun x hx=>by
   obtain⟨j,hj,rfl⟩:=X0.1 hx;exact⟨j,hj,by simp[XJ,hj]⟩
  have hS:=tL (L:=L) (S:=fun x=>∃j,j < ids.length∧ids.getD j 0=x∧(dG (MJ L ids) ((XV ids.length false).set i true) ids.length).getD j false=true) (fun l wV=>by
   obtain⟨ha,hb,gE⟩:=hl l wV;obtain⟨u,hu,eu⟩:=fR _ ha;obtain⟨v,hv,ev⟩:=fR _ hb;constructor
   ·rintro⟨j,hj,ej,h2⟩;refine⟨v,hv,ev,fS j v hj hv h2 ?_⟩;unfold MJ;rw[ej,ev,(Lu gE).1,decide_eq_true_eq];exact wV
   ·rintro⟨j,hj,ej,h2⟩;refine⟨u,hu,eu,fS j u hj hu h2 ?_⟩;unfold MJ;rw[ej,eu,(Lu gE).2,decide_eq_true_eq];exact wV) h
  obtain⟨j,hj,ej,h2⟩:=hS.2 ⟨i,hi,rfl,Gf (o5 _ _ _) (by simp[XJ,hi])⟩;have:j=k:=by
   have e1:ids[j]=ids[k]:=by simpa[XJ,hj,hk]using ej
   rcases Zb j k with h|h|h
   ·exact absurd e1 (XF.1 hn j k hj hk h)
   ·exact h
   ·exact absurd e1.symm (XF.1 hn k j hk hj h)
  rw[←this];exact h2
theorem wj (n:Net):aW n=fr n.links:=by
 unfold aW Se fr;have key:∀(L:List Lnk) (s:List (List Int × Int) × (Int→Int)),(L.foldl pC s).2=L.foldl fM s.2:=by
  intro L;induction L with
  |nil=>intro s;rfl
  |cons l L ih=>intro s;rw[YO,YO,ih];rfl
 exact key _ _
@[go_sem] def mE (b:Bool):List D:=[.v (.bool b)]
@[go_sem] theorem Gi (n:Nat)(b:Bool):XV n [PV.d (.v (.bool b))]=ab ((XV n b).map mE):=by simp[ab,mE,List.map_replicate]
theorem Lw (l:List Bool)(i:Nat)(b:Bool):(ab (l.map mE)).set i [.d (.v (.bool b))]=ab ((l.set i b).map mE):=bO mE l i b
theorem QA {n:Net}{i k:Nat}{v w:Vpc}(hv:n.vpcs[i]? =some v)(hw:n.vpcs[k]? =some w):MJ n.links (n.vpcs.map (·.id)) i k=jB n v.id w.id:=by
 have e1:(n.vpcs.map (·.id)).getD i 0=v.id:=by simp[XJ,hv]
 have e2:(n.vpcs.map (·.id)).getD k 0=w.id:=by simp[XJ,hw]
 unfold MJ jB;rw[e1,e2,Yi,decide_eq_true_eq,XU];simp
theorem If {n:Net}(hr:n.vpcs.Pairwise fun a b=>a.id < b.id):(n.vpcs.map (·.id)).Nodup:=by
 unfold List.Nodup;rw[Y3];exact hr.imp fun h=>by omega
theorem wk (n:Net)(id:Int)(i0:Nat)(hx:eO n id=some i0)(h6:n.vpcs.length≤6)(Mh:n.links.length≤12)(hr:n.vpcs.Pairwise fun a b=>a.id < b.id)(hl:∀l∈n.links,l.a∈n.vpcs.map (·.id)∧l.b∈n.vpcs.map (·.id)∧l.a < l.b):
 af prog 108 [.agg (aK n),.v (.int .i64 id)] (.sl 1 ((oz n id).map cD)):=by
 obtain⟨v0,I3,Vn,jU,sY⟩:=ei hx;have cY:=gJ n id (by omega);rw[jR,hx]at cY
 simp only at cY
 obtain⟨lk,i4⟩:∃lk,lk=MJ n.links (n.vpcs.map (·.id)):=⟨_,rfl⟩;obtain⟨l0,pG⟩:∃l0,l0=(XV n.vpcs.length false).set i0 true:=⟨_,rfl⟩;have wV:l0.length=n.vpcs.length:=by rw[pG];simp
 have rJ:∀(k:Nat) (v:Vpc),n.vpcs[k]? =some v→(dG lk l0 n.vpcs.length)[k]? =some (aW n v.id==aW n id):=fun k v hv=>by
  have hk:=(Xn.1 hv).1;have h:=CX (L:=n.links) (ids:=n.vpcs.map (·.id)) (If hr) hl (i:=i0) (k:=k) (by simpa using jU) (by simpa using hk);have e1:(n.vpcs.map (·.id)).getD k 0=v.id:=by simp[XJ,hv]
  have e2:(n.vpcs.map (·.id)).getD i0 0=id:=by simp[XJ,I3,Vn]
  rw[e1,e2,XC,←i4,←pG,←wj]at h;have iV:k < (dG lk l0 n.vpcs.length).length:=by rw[oE,wV];exact hk
  rw[←h,XJ,Xk iV];rfl
 have II:0 < n.vpcs.length:=by omega
 have PK:0 < (n.vpcs.length:Int):=by omega
 have gM:(ab ((XV n.vpcs.length false).map mE)).set i0 [.d (.v (.bool true))]=ab (l0.map mE):=by rw[Lw,←pG]
 have MS:(0:Int)≤(i0:Int):=by omega
 have Dq:(XV n.vpcs.length false)[i0]? =some false:=by rw[ZX,if_pos jU]
 have DK:oz n id=(n.vpcs.filter fun v=>aW n v.id==aW n id).map (·.id):=rfl;rw[DK];clear DK hx sY hl hr;replace rJ:=Xj rJ;replace pG:=Xj pG;replace Vn:=Xj Vn;replace i4:=Xj i4;refine pj func108 ntmps108 results108 ?_;repeat' (first|(with_reducible refine And.intro ?_ ?_)|(with_reducible refine cm (fun _=>?_) (fun _=>?_))|(with_reducible refine aA (fun _=>?_) (fun _=>?_))|(with_reducible refine be (by kernel_rfl))|simp -dsimp only[go_sem,seval, *,aK,mE,Dq,Gi,PK,jU,MS,gM,List.length_replicate]|((with_reducible refine bf ?_);simp -dsimp only[go_sem,seval,aK,mE,Dq,Gi,PK,jU,MS,gM,List.length_replicate];first|refine aC (by first|assumption|exact cY) (by first|exact .inl rfl|exact .inr rfl) ?_|(refine aB (by assumption) ?_ ?_ ?_;(solve|(repeat(first|exact ai.refl _|exact ai.nil _|(refine ai.tup ?_)|(refine ai.agg ?_ rfl)|exact trivial|(refine And.intro ?_ ?_))));(solve|exact .inl rfl|exact .inr rfl)))|fail|omega|exact decide_eq_true (by omega)|exact ai.refl _)
 clear cY gM I3 Dq;refine qK ae ak n.vpcs.length (fun _=>True) (fun t=>[(6,.d (.v (.int .i64 t))),(5,.own 1 0),(4,.d (.v (.slice none 0 0))),(2,.ptr 0 0)])
  (fun t=>[.box 28 ((aK n).map .d),.row 4 1 0 (ab ((dG lk l0 t).map mE))]) trivial (wf) ?_ ?_
 ·intro t ht _ CT hCT;have htI:(t:Int) < (n.vpcs.length:Int):=by omega
  have O3:=wi t (by omega);have hlt:=oE lk l0 t;rw[wV]at hlt;have qk:dG lk l0 (t+1)=iF lk (dG lk l0 t) n.vpcs.length:=by show iF lk (dG lk l0 t) l0.length=_;rw[wV]
  replace qk:=Xj qk;generalize dG lk l0 t=A at*;refine am ?_<;>intros;refine qK ae ak n.vpcs.length (fun _=>True) (fun i=>[(7,.d (.v (.int .i64 i))),(6,.d (.v (.int .i64 t))),(5,.own 1 0),(4,.d (.v (.slice none 0 0))),(2,.ptr 0 0)])
   (fun i=>[.box 28 ((aK n).map .d),.row 4 1 0 (ab ((iF lk A i).map mE))]) trivial (wf) ?_ ?_
  ·intro i hi _ CI hCI;have a0e:(i:Int) < (n.vpcs.length:Int):=by omega
   have ux:=wi i (by omega);have oJ:=CU lk A i;rw[hlt]at oJ;have Rx:iF lk A (i+1)=qf lk (iF lk A i) i n.vpcs.length:=by show qf lk (iF lk A i) i A.length=_;rw[hlt]
   replace Rx:=Xj Rx;obtain⟨vi,Ty⟩:∃v,n.vpcs[i]? =some v:=⟨_,Xk hi⟩;generalize iF lk A i=B at*;refine am ?_<;>intros;refine qK ae ak n.vpcs.length (fun _=>True) (fun k=>[(8,.d (.v (.int .i64 k))),(7,.d (.v (.int .i64 i))),(6,.d (.v (.int .i64 t))),(5,.own 1 0),(4,.d (.v (.slice none 0 0))),(2,.ptr 0 0)])
    (fun k=>[.box 28 ((aK n).map .d),.row 4 1 0 (ab ((qf lk B i k).map mE))]) trivial (wf) ?_ ?_
   ·intro k hk _ C hC;have dH:(k:Int) < (n.vpcs.length:Int):=by omega
    have Tf:=wi k (by omega);have Vo:=CV lk B i k;rw[oJ]at Vo;have dP:qf lk B i (k+1)=tJ lk i k (qf lk B i k):=rfl;obtain⟨vk,pp⟩:∃v,n.vpcs[k]? =some v:=⟨_,Xk hk⟩;have MU:=sK n vi.id vk.id (by omega);have je:lk i k=jB n vi.id vk.id:=by rw[i4.out];exact QA Ty pp
    generalize qf lk B i k=M at*;obtain⟨bk,cn⟩:∃b,M[k]? =some b:=⟨_,Xk (by omega)⟩;obtain⟨bi,Ss⟩:∃b,M[i]? =some b:=⟨_,Xk (by omega)⟩;have pk:tJ lk i k M=M.set k (bk||(bi&&jB n vi.id vk.id)):=by unfold tJ;rw[je];simp[XJ,cn,Ss]
    generalize jB n vi.id vk.id=q at*;have bY:=fun b=>Lw M k b;clear je;replace dP:=Xj dP;replace pk:=Xj pk;cases bk with
    |true=>
     refine am ?_<;>intros;refine hC _ _ trivial ?_;rw[dP.out,pk.out];exact wf
    |false=>
     cases bi with
     |false=>
      refine am ?_<;>intros;refine hC _ _ trivial ?_;rw[dP.out,pk.out];exact wf
     |true=>
      refine am ?_<;>intros;refine hC _ _ trivial ?_;rw[dP.out,pk.out];exact wf
   ·intro _ C;have MB:=CV lk B i n.vpcs.length;rw[oJ]at MB;refine am ?_<;>intros;refine hCI _ _ trivial ?_;rw[Rx.out];exact wf
  ·intro _ C;have MB:=CU lk A n.vpcs.length;rw[hlt]at MB;refine am ?_<;>intros;refine hCT _ _ trivial ?_;rw[qk.out];exact wf
 ·intro _ C;have MB:=oE lk l0 n.vpcs.length;rw[wV]at MB;generalize dG lk l0 n.vpcs.length=M at*;refine am ?_<;>intros;refine bL ae ak (fun m e h=>∃(k g:Nat),k≤n.vpcs.length∧m=n.vpcs.length - k∧e=[(10,.d (.v (.int .i64 k))),(9,.own 2 g),(5,.own 1 0),(4,.d (.v (.slice none 0 0))),(2,.ptr 0 0)]∧
   h=[.box 28 ((aK n).map .d),.row 4 1 0 (ab (M.map mE)),.row 3 1 g (ab ((((n.vpcs.take k).filter fun v=>aW n v.id==aW n id).map (·.id)).map cD))]) _ _ _ ⟨0,0,XD _,rfl,rfl,rfl⟩ ?_ ?_
  ·refine(cS (by simp) 9 3 1 rfl).trans ?_;exact wf
  ·rintro m e h ⟨k,g,hk,hm,rfl,rfl⟩ C hC;by_cases hlt:k < n.vpcs.length
   ·have dH:(k:Int) < (n.vpcs.length:Int):=by omega
    have cM:=wi k (by omega);obtain⟨v,hv⟩:∃v,n.vpcs[k]? =some v:=⟨_,Xk hlt⟩;have cn:=rJ.out k v hv;have gS:((n.vpcs.take k).filter fun v=>aW n v.id==aW n id).length≤k:=by
     have:=Za (fun v:Vpc=>aW n v.id==aW n id) (n.vpcs.take k);rw[Xp]at this;omega
    have Q5:((n.vpcs.take k).filter fun v=>aW n v.id==aW n id).length+1≤100:=by omega
    have dP:(n.vpcs.take (k+1)).filter (fun v=>aW n v.id==aW n id)=(n.vpcs.take k).filter (fun v=>aW n v.id==aW n id)++if (aW n v.id==aW n id)=true then [v]else []:=by
     rw[ag hv,YW];congr 1;cases hb:aW n v.id==aW n id<;>simp[hb]
    replace dP:=Xj dP;replace gS:=Xj gS;replace hm:=Xj hm;generalize (n.vpcs.take k).filter (fun v=>aW n v.id==aW n id)=L at*;cases e1:(aW n v.id==aW n id)with
    |false=>
     rw[e1]at dP cn;refine am ?_<;>intros;refine hC _ _ _ _ _ ?_ ⟨k+1,g,hlt,rfl,rfl,rfl⟩ (wf (hh:=(by rw[dP.out];simp only[YB,if_false,Yv];rfl)) (hb:=cI) (hbh:=cI));have:=hm.out;omega
    |true=>
     rw[e1]at dP cn;refine am ?_<;>intros;refine hC _ _ _ _ _ ?_ ⟨k+1,g+1,hlt,rfl,rfl,rfl⟩ (wf (hh:=(by rw[dP.out];simp only[if_true,Xo,Xm,Xu,←aI];rfl)) (hb:=cI) (hbh:=cI));have:=hm.out;omega
   ·obtain rfl:k=n.vpcs.length:=by omega
    (try rw[Xt])
    replace hm:=Xj hm;exact aZ;all_goals exact dg
theorem Ou (y l:Lnk):qZ y l < 0↔y.a < l.a∨(y.a=l.a∧y.b < l.b):=by
 unfold qZ;simp only[B6,ep];repeat' split
 all_goals omega
theorem tM (v w:Vpc):dE v w=dE w v:=by
 have key:∀v w:Vpc,dE v w=true→dE w v=true:=fun v w h=>by
  unfold dE at h ⊢;obtain⟨r,hr,h⟩:=XU.1 h;obtain⟨q,hq,h⟩:=XU.1 h;exact XU.2 ⟨q,hq,XU.2 ⟨r,hr,by rw[pX];exact h⟩⟩
 rw[Yi];exact⟨key v w,key w v⟩
theorem Ig (n:Net)(v w:Vpc):jK n v w=jK n w v:=by
 unfold jK;rw[tM v w,Bool.beq_comm]
theorem sL {n:Net}{i j:Nat}{v w:Vpc}(hij:i≠j)(hv:n.vpcs[i]? =some v)(hw:n.vpcs[j]? =some w)(h:jK n v w=true):ez n=false:=by
 rcases H' hij with hlt|hlt
 ·exact su hlt hw hv (by rw[Ig];exact h)
 ·exact su hlt hv hw h
theorem Gj {n:Net}(hr:n.vpcs.Pairwise fun a b=>a.id < b.id){i:Nat}{v w:Vpc}(hv:n.vpcs[i]? =some v)(hw:w∈n.vpcs.take i):w.id≠v.id:=by
 obtain⟨j,hj,rfl⟩:=X0.1 hw;rw[ZA];obtain⟨hi,rfl⟩:=Xn.1 hv;have:=XF.1 hr j i (by rw[Xp]at hj;omega) hi (by rw[Xp]at hj;omega);omega
theorem oF {n:Net}(hr:n.vpcs.Pairwise fun a b=>a.id < b.id){j:Nat}{w:Vpc}(hw:n.vpcs[j]? =some w):eO n w.id=some j:=by
 unfold eO;rw[XH];obtain⟨hj,rfl⟩:=Xn.1 hw;refine⟨hj,by simp,fun i hi=>?_⟩;have:=XF.1 hr i j (by omega) hj hi;simp;omega
theorem ES {n:Net}(hr:n.vpcs.Pairwise fun a b=>a.id < b.id){id x:Int}{k:Nat}(h:(oz n id)[k]? =some x):∃j w,n.vpcs[j]? =some w∧w.id=x∧eO n x=some j∧aW n x=aW n id:=by
 have hm:=Xl h;unfold oz at hm;obtain⟨w,hw,rfl⟩:=XQ.1 hm;rw[Zt,beq_iff_eq]at hw;obtain⟨j,hj⟩:=Ze.1 hw.1;exact⟨j,w,hj,rfl,oF hr hj,hw.2⟩
theorem Ak {n:Net}{id:Int}{w:Vpc}(hw:w∈n.vpcs)(h:aW n w.id=aW n id):w.id∈oz n id:=by
 unfold oz;exact XQ.2 ⟨w,Zt.2 ⟨hw,by simpa using h⟩,rfl⟩
theorem Al (n:Net)(id:Int):(oz n id).length≤n.vpcs.length:=by
 unfold oz;rw[XC];exact Za _ _
theorem Ov {n:Net}(l:Lnk):kT n l=((eO n l.a).isSome&&((eO n l.b).isSome&&decide (l.a < l.b))):=by
 have key:∀x,(fL n x).isSome=(eO n x).isSome:=fun x=>by
  cases h:eO n x with
  |none=>rw[dY h];rfl
  |some i=>obtain⟨v,-,-,-,h2⟩:=ei h;rw[h2];rfl
 unfold kT;rw[key,key]
def xE (n:Net):Prop:=∀v∈n.vpcs,v.subs.length≤9223372036854775807∧∀s∈v.subs,s.faces.length≤9223372036854775807
theorem jt (n:Net)(hz:xE n):af prog 38 [.agg (aK n)] (.v (.int .i64 (cK n))):=by
 obtain⟨R,hR⟩:∃R,R=cK n:=⟨_,rfl⟩;rw[←hR];replace hR:=Xj hR;replace hz:=Xj hz;by_cases h6:n.vpcs.length>6
 ·have S6:decide ((n.vpcs.length:Int)>6)=true:=by simp;omega
  have hr:R=2:=by rw[hR.out,cK,if_pos (.inl h6)]
  rw[hr];replace hr:=Xj hr;refine pj func38 ntmps38 results38 ?_;exact aZ;all_goals exact ai.refl _
 by_cases Mh:n.links.length>12
 ·have S6:decide ((n.vpcs.length:Int)>6)=false:=by simp;omega
  have Q6:decide ((n.links.length:Int)>12)=true:=by simp;omega
  have hr:R=2:=by rw[hR.out,cK,if_pos (.inr Mh)]
  rw[hr];replace hr:=Xj hr;refine pj func38 ntmps38 results38 ?_;exact aZ;all_goals exact ai.refl _
 have S6:decide ((n.vpcs.length:Int)>6)=false:=by simp;omega
 have Q6:decide ((n.links.length:Int)>12)=false:=by simp;omega
 have cf:¬(n.vpcs.length>6∨n.links.length>12):=by omega
 refine pj func38 ntmps38 results38 ?_;refine am ?_<;>intros;refine bg ae ak n.vpcs (fun k=>(∀v∈n.vpcs.take k,bN v=0)∧(n.vpcs.take k).Pairwise fun a b=>a.id < b.id) (fun k=>[(3,.d (.v (.int .i64 k))),(2,.d (.v (.int .i64 0))),(1,.ptr 0 0)]) (fun _=>[.box 28 ((aK n).map .d)]) (by simp) (wf) ?_ ?_
 ·intro k v hv hk hI C hC;have dH:(k:Int) < (n.vpcs.length:Int):=by omega
  have cM:=wi k (by omega);have gU:=ag hv;have RT:=hz.out v (Xl hv);have UC:=gy v RT.1 RT.2;clear RT;by_cases hc:bN v=0
  ·have hid:1≤v.id:=by have:=(aY hc).id;simp[cF]at this;exact this.1
   rw[hc]at UC;have lS:(lD (n.vpcs.take k) < v.id)→(∀v∈n.vpcs.take (k+1),bN v=0)∧(n.vpcs.take (k+1)).Pairwise fun a b=>a.id < b.id:=fun h=>by
    rw[gU];exact⟨fun u hu=>by
     rcases X2.1 hu with hu|hu
     ·exact hI.1 u hu
     ·rw[Yc.1 hu];exact hc,vA hI.2 h⟩
   have bH:v.id≤lD (n.vpcs.take k)→R=1:=fun h=>by
    rw[hR.out];refine gX cf (.inl ?_);cases hb:om n with
    |false=>rfl
    |true=>
     have:=(kU hb (k+1)).2;rw[gU]at this;exact absurd this (yB hid h)
   clear hI gU;replace hc:=Xj hc;replace lS:=Xj lS;replace bH:=Xj bH;by_cases hk0:k=0
   ·have Mk:decide ((k:Int)>0)=false:=by simp;omega
    have hg:=lS.out (by rw[hk0];simp[lD];omega);replace hg:=Xj hg;replace hk0:=Xj hk0;refine am ?_<;>intros;exact hC _ _ hg.out (wf)
   ·obtain⟨j,hj⟩:∃j,k=j+1:=⟨k - 1,by omega⟩;obtain⟨u,hu⟩:∃u,n.vpcs[j]? =some u:=⟨_,Xk (by omega)⟩;have Mk:decide ((k:Int)>0)=true:=by simp;omega
    have cj:IntKind.i64.wrap ((k:Int) - 1)=(j:Int):=by rw[IntKind.wrap_i64];omega
    have ic:(j:Int) < (n.vpcs.length:Int):=by omega
    have AF:lD (n.vpcs.take k)=u.id:=by rw[hj];unfold lD;rw[sx hu];rfl
    replace hj:=Xj hj;replace hk0:=Xj hk0;by_cases ho:u.id≥v.id
    ·have hr:R=1:=bH.out (by rw[AF];exact ho);rw[hr];replace hr:=Xj hr;replace AF:=Xj AF;exact aZ;all_goals exact ai.refl _
    ·have hg:=lS.out (by rw[AF];omega);have gk:decide (u.id≥v.id)=false:=by simpa using ho
     replace AF:=Xj AF;replace hg:=Xj hg;replace ho:=Xj ho;refine am ?_<;>intros;exact hC _ _ hg.out (wf)
  ·have hr:R=1:=by
    rw[hR.out];refine gX cf (.inl ?_);cases hb:om n with
    |false=>rfl
    |true=>exact absurd ((kU hb (k+1)).1 v (by rw[gU];simp)) hc
   have W9:(bN v !=0)=true:=by simpa using hc
   rw[hr];clear hr hI hC gU;replace hc:=Xj hc;exact aZ;all_goals exact ai.refl _
 ·intro hI C;rw[Xt]at hI;have Mi:=vB hI.1 hI.2;have nF:=hI.2;replace hI:=Xj hI;replace nF:=Xj nF;replace Mi:=Xj Mi;refine am ?_<;>intros;refine bg ae ak n.links (fun k=>(∀l∈n.links.take k,kT n l=true)∧i6 (n.links.take k)=true) (fun k=>[(4,.d (.v (.int .i64 k))),(2,.d (.v (.int .i64 0))),(1,.ptr 0 0)]) (fun _=>[.box 28 ((aK n).map .d)]) (by simp[i6]) (wf) ?_ ?_
  ·intro k l hl hk hJ C hC;have dH:(k:Int) < (n.links.length:Int):=by omega
   have cM:=wi k (by omega);have gU:=ag hl;have jY:=gJ n l.a (by omega);have lu:=gJ n l.b (by omega);rw[jR]at jY lu;have bH:kT n l=false→R=1:=fun h=>by
    rw[hR.out];refine gX cf (.inr (.inl ?_));rw[Y2];exact⟨l,Xl hl,by simp[h]⟩
   have je:=Ov (n:=n) l;have gQ:kT n l=true→i6 (n.links.take (k+1))=true→(∀l∈n.links.take (k+1),kT n l=true)∧i6 (n.links.take (k+1))=true:=fun h g=>by
    refine⟨?_,g⟩;rw[gU];intro u hu;rcases X2.1 hu with hu|hu
    ·exact hJ.1 u hu
    ·rw[Yc.1 hu];exact h
   have wQ:i6 (n.links.take (k+1))=false→R=1:=fun h=>by
    rw[hR.out];refine gX cf (.inr (.inr (.inl ?_)));cases hb:i6 n.links with
    |false=>rfl
    |true=>rw[yC hb]at h;cases h
   have sU:=sw (n.links.take k) l;rw[←gU,hJ.2,Yr]at sU;have ud:decide ((-1:Int) < 0)=true:=rfl;clear gU;replace hJ:=Xj hJ;replace bH:=Xj bH;replace wQ:=Xj wQ;replace gQ:=Xj gQ;by_cases gE:l.a < l.b
   ·have hge:decide (l.a≥l.b)=false:=by simp;omega
    cases ea:eO n l.a with
    |none=>
     rw[ea]at jY je;simp only at jY;have hr:R=1:=bH.out (by rw[je];rfl);rw[hr];clear hr je sU lu;replace ea:=Xj ea;replace gE:=Xj gE;exact aZ;all_goals exact ai.refl _
    |some ia=>
     rw[ea]at jY je;simp only at jY;have O6:decide ((ia:Int) < 0)=false:=by simp
     replace ea:=Xj ea;cases eb:eO n l.b with
     |none=>
      rw[eb]at lu je;simp only at lu;have hr:R=1:=bH.out (by rw[je];rfl);rw[hr];clear hr je sU;replace eb:=Xj eb;replace gE:=Xj gE;exact aZ;all_goals exact ai.refl _
     |some ib=>
      rw[eb]at lu je;simp only at lu;have Tt:decide ((ib:Int) < 0)=false:=by simp
      replace eb:=Xj eb;have hlt:kT n l=true:=by rw[je];simp[gE]
      clear je;replace hlt:=Xj hlt;replace gE:=Xj gE;by_cases hk0:k=0
      ·have Mk:decide ((k:Int)>0)=false:=by simp;omega
       have hg:=gQ.out hlt.out (by rw[sU,hk0];rfl);clear sU;replace hg:=Xj hg;replace hk0:=Xj hk0;refine am ?_<;>intros;exact hC _ _ hg.out (wf)
      ·obtain⟨j,hj⟩:∃j,k=j+1:=⟨k - 1,by omega⟩;obtain⟨y,hy⟩:∃y,n.links[j]? =some y:=⟨_,Xk (by omega)⟩;have Mk:decide ((k:Int)>0)=true:=by simp;omega
       have cj:IntKind.i64.wrap ((k:Int) - 1)=(j:Int):=by rw[IntKind.wrap_i64];omega
       have ic:(j:Int) < (n.links.length:Int):=by omega
       have nL:=Ou y l;rw[hj,sx hy]at sU;simp only at sU;rw[←hj]at sU;replace hj:=Xj hj;replace hk0:=Xj hk0;by_cases ho:qZ y l < 0
       ·have hg:=gQ.out hlt.out (by rw[sU];simpa using ho);have fl:=nL.1 ho;clear sU nL ho;replace hg:=Xj hg;by_cases oJ:y.a < l.a
        ·have e1:decide (y.a>l.a)=false:=by simp;omega
         have e2:(y.a==l.a)=false:=by simp;omega
         clear fl oJ;refine am ?_<;>intros;exact hC _ _ hg.out (wf)
        ·have e1:decide (y.a>l.a)=false:=by simp;omega
         have e2:(y.a==l.a)=true:=by simp;omega
         have e3:decide (y.b≥l.b)=false:=by simp;omega
         clear fl oJ;refine am ?_<;>intros;exact hC _ _ hg.out (wf)
       ·have hr:R=1:=wQ.out (by rw[sU];simpa using ho);have fl:¬(y.a < l.a∨(y.a=l.a∧y.b < l.b)):=fun h=>ho (nL.2 h);rw[hr];clear sU hr nL ho;by_cases oJ:y.a>l.a
        ·have e1:decide (y.a>l.a)=true:=by simpa using oJ
         clear fl oJ;exact aZ;all_goals exact ai.refl _
        ·have e1:decide (y.a>l.a)=false:=by simpa using oJ
         have e2:(y.a==l.a)=true:=by simp;omega
         have e3:decide (y.b≥l.b)=true:=by simp;omega
         clear fl oJ;exact aZ;all_goals exact ai.refl _
   ·have hge:decide (l.a≥l.b)=true:=by simp;omega
    have hr:R=1:=bH.out (by rw[je];simp;omega);rw[hr];clear hr je sU jY lu;replace gE:=Xj gE;exact aZ;all_goals exact ai.refl _
  ·intro hJ C;rw[Xt]at hJ;have IW:∀l∈n.links,l.a∈n.vpcs.map (·.id)∧l.b∈n.vpcs.map (·.id)∧l.a < l.b:=fun l hl=>by
    have:=hJ.1 l hl;unfold kT at this;simp only[Xy,decide_eq_true_eq]at this;exact⟨fN this.1,fN this.2.1,this.2.2⟩
   replace hJ:=Xj hJ;replace IW:=Xj IW;refine am ?_<;>intros;refine bg ae ak n.vpcs (fun k=>∀v∈n.vpcs.take k,∀w∈n.vpcs,w.id≠v.id→jK n v w=false) (fun k=>[(6,.d (.v (.int .i64 k))),(2,.d (.v (.int .i64 0))),(1,.ptr 0 0)]) (fun _=>[.box 28 ((aK n).map .d)]) (by simp) (wf) ?_ ?_
   ·intro k v hv hk hK C hC;have dH:(k:Int) < (n.vpcs.length:Int):=by omega
    have cM:=wi k (by omega);have TS:=wk n v.id k (oF nF.out hv) (by omega) (by omega) nF.out IW.out;have Wk:=Al n v.id;have dP:(∀w∈n.vpcs,w.id≠v.id→jK n v w=false)→∀v∈n.vpcs.take (k+1),∀w∈n.vpcs,w.id≠v.id→jK n v w=false:=fun h u hu=>by
     rw[ag hv]at hu;rcases X2.1 hu with hu|hu
     ·exact hK u hu
     ·rw[Yc.1 hu];exact h
    have Vp:∀w∈n.vpcs,aW n w.id=aW n v.id→w.id∈oz n v.id:=fun w hw h=>Ak hw h;have RU:∀(k:Nat) (x:Int),(oz n v.id)[k]? =some x→∃j w,n.vpcs[j]? =some w∧w.id=x∧eO n x=some j∧aW n x=aW n v.id:=fun k x h=>ES nF.out h;replace hK:=Xj hK;replace dP:=Xj dP;replace Vp:=Xj Vp;replace RU:=Xj RU;generalize oz n v.id=G at*;refine am ?_<;>intros;refine bg ae ak G (fun j=>∀w∈n.vpcs,w.id∈G.take j→w.id≠v.id→jK n v w=false) (fun j=>[(8,.d (.v (.int .i64 j))),(7,.d (.sl 1 (G.map cD))),(6,.d (.v (.int .i64 k))),(2,.d (.v (.int .i64 0))),(1,.ptr 0 0)]) (fun _=>[.box 28 ((aK n).map .d)]) (by simp) (wf) ?_ ?_
    ·intro j x hx hj hL C2 jz;have ic:(j:Int) < (G.length:Int):=by omega
     have j6:=wi j (by omega);obtain⟨q,w,hw,RV,TX,Ry⟩:=RU.out j x hx;have Tz:(x≠v.id→jK n v w=false)→∀w∈n.vpcs,w.id∈G.take (j+1)→w.id≠v.id→jK n v w=false:=fun h u hu hug bB=>by
      rw[ag hx]at hug;rcases X2.1 hug with hug|hug
      ·exact hL u hu hug bB
      ·have e1:u.id=x:=Yc.1 hug;obtain⟨p,hp⟩:=Ze.1 hu;have e2:=oF nF.out hp;rw[e1,TX]at e2;cases e2;rw[hw]at hp;cases hp;exact h (by rw[←e1];exact bB)
     by_cases MV:x=v.id
     ·have e1:(x !=v.id)=false:=by simpa using MV
      have hn:=Tz fun h=>absurd MV h;clear Tz hL;replace hn:=Xj hn;replace MV:=Xj MV;replace RV:=Xj RV;refine am ?_<;>intros;exact jz _ _ hn.out (wf)
     ·have e1:(x !=v.id)=true:=by simpa using MV
      have cY:=gJ n x (by omega);rw[jR,TX]at cY
      simp only at cY
      have zg:=(aY (hI.out.1 v (Xl hv))).n4;have UA:=(aY (hI.out.1 w (Xl hw))).n4;have fS:=CR v w (by omega) (by omega);have Rz:(0:Int)≤(q:Int):=by omega
      have sS:(q:Int) < (n.vpcs.length:Int):=by have:=(Xn.1 hw).1;omega
      have TY:jK n v w=dE v w:=by unfold jK;rw[RV,Ry];simp
      have Vq:k≠q:=fun e=>by subst e;rw[hv]at hw;cases hw;exact MV RV.symm
      clear zg UA;replace RV:=Xj RV;replace Vq:=Xj Vq;replace TX:=Xj TX;replace Ry:=Xj Ry;replace hL:=Xj hL;cases b:dE v w with
      |true=>
       have hr:R=1:=by
        rw[hR.out];exact gX cf (.inr (.inr (.inr (sL Vq.out hv hw (by rw[TY];exact b)))))
       rw[b]at fS;rw[hr];clear hr Tz TY b;replace MV:=Xj MV;exact aZ;all_goals exact ai.refl _
      |false=>
       have hn:=Tz fun _=>by rw[TY];exact b
       rw[b]at fS;clear Tz TY b;replace hn:=Xj hn;replace MV:=Xj MV;refine am ?_<;>intros;exact jz _ _ hn.out (wf)
    ·intro hL C2;rw[Xt]at hL;have hn:=dP.out fun w hw bB=>by
      by_cases hh:aW n w.id=aW n v.id
      ·exact hL w hw (Vp.out w hw hh) bB
      ·unfold jK;have:(aW n v.id==aW n w.id)=false:=by simpa using fun e=>hh e.symm
       rw[this];rfl
     replace hL:=Xj hL;replace hn:=Xj hn;refine am ?_<;>intros;exact hC _ _ hn.out (wf)
   ·intro hK C;rw[Xt]at hK;have hr:R=0:=by
     rw[hR.out];refine sv cf Mi.out (by rw[XE];exact hJ.out.1) hJ.out.2 (pZ fun i v w hv hw=>?_);exact hK v (Xl hv) w (Yg hw) (Gj nF.out hv hw)
    rw[hr];replace hr:=Xj hr;replace hK:=Xj hK;exact aZ;all_goals exact ai.refl _
theorem wl (v:Vpc)(h4:v.ranges.length≤4)(h6:v.subs.length≤6)(h8:∀s∈v.subs,s.faces.length≤8∧∀f∈s.faces,f.addrs.length≤4):
 MSpec prog 44 [.d (.agg (al v))] [] (.agg [.d (.v (.int .i64 v.id)),.own 2 1,.own 4 v.subs.length]) [.gone,.gone,.row 58 3 1 (ab (v.ranges.map bv)),.gone,.row 71 4 v.subs.length (ab (v.subs.map aU))]:=by
 replace h8:=Xj h8;refine mj func44 ntmps44 results44 ?_;refine am ?_<;>intros;refine bg ae ak v.subs (fun _=>True) (fun k=>[(4,.d (.v (.int .i64 k))),(3,.ptr 3 0),(2,.ptr 1 0),(1,.ptr 0 0)]) (fun k=>[.box 55 ((al v).map .d),.box 55 [.d (.v (.int .i64 0)),.d (.v (.slice none 0 0)),.d (.v (.slice none 0 0))],.row 58 3 1 (ab (v.ranges.map bv)),.box 55 [.d (.v (.int .i64 v.id)),.own 2 1,.own 4 k],.row 71 4 k (ab ((v.subs.take k).map aU))]) trivial ?_ ?_ ?_
 ·refine(au (by simp) 3 55 [.d (.v (.int .i64 v.id)),.own 2 1,.d (.v (.slice none 0 0))] 2 71 4 rfl rfl rfl).trans ?_;exact wf (hb:=cI) (hbh:=cI)
 ·intro k s hs hk _ CO sX;have dH:(k:Int) < (v.subs.length:Int):=by omega
  have cM:=wi k (by omega);have iH:=h8.out s (Xl hs);have i7:k+1≤100:=by omega
  have i4:(Yf k v.subs).length=k:=by rw[Xp];omega
  replace hs:=Xj hs;have lh:=hs.out;refine am ?_<;>intros;refine bg ae ak s.faces (fun _=>True) (fun j=>[(6,.d (.v (.int .i64 j))),(5,.ptr 5 0),(4,.d (.v (.int .i64 k))),(3,.ptr 3 0),(2,.ptr 1 0),(1,.ptr 0 0)])
   (fun j=>[.box 55 ((al v).map .d),.box 55 [.d (.v (.int .i64 0)),.d (.v (.slice none 0 0)),.d (.v (.slice none 0 0))],.row 58 3 1 (ab (v.ranges.map bv)),.box 55 [.d (.v (.int .i64 v.id)),.own 2 1,.own 4 k],.row 71 4 k (ab ((v.subs.take k).map aU)),.box 71 [.d (.v (.int .i64 s.id)),.d (.v (.int .i64 s.at_.at_)),.d (.v (.int .i64 s.at_.len)),.own 6 j],.row 74 2 j (ab ((s.faces.take j).map cl))]) trivial ?_ ?_ ?_
  ·refine(au (by simp) 5 71 [.d (.v (.int .i64 s.id)),.d (.v (.int .i64 s.at_.at_)),.d (.v (.int .i64 s.at_.len)),.d (.v (.slice none 0 0))] 3 74 2 rfl rfl rfl).trans ?_;exact wf (hb:=cI) (hbh:=cI)
  ·intro j f hf hj _ C hC;have ic:(j:Int) < (s.faces.length:Int):=by omega
   have j6:=wi j (by omega);have gS:=iH.2 f (Xl hf);have jd:j+1≤100:=by omega
   have pf:(Yf j s.faces).length=j:=by rw[Xp];omega
   replace hf:=Xj hf;have zj:=hf.out;refine am ?_<;>intros;refine hC _ _ trivial ((ap 8 1 3 1 (f.addrs.map cD) rfl).trans ?_);simp only[iu,fz,gr,f7,gV,f5,aR,bR,bW,Xm,Xu,XM,XL,reduceIte,and_true,true_and,and_self,and_false,false_and,XG,XW,reduceCtorEq,cV];exact wf (hh:=(by rw[ag hf.out,Xo,Xm,Xu,←aI];rfl)) (hb:=cI) (hbh:=cI)
  ·intro _ C;refine am ?_<;>intros;refine sX _ _ trivial ((ap 6 s.faces.length 74 2 (s.faces.map cl) rfl).trans ?_);simp only[iu,fz,gr,f7,gV,f5,aR,bR,bW,Xm,Xu,XM,XL,reduceIte,and_true,true_and,and_self,and_false,false_and,XG,XW,reduceCtorEq];exact wf (hh:=(by rw[ag hs.out,Xo,Xm,Xu,←aI];rfl)) (hb:=cI) (hbh:=cI)
 ·intro _ C;refine am ?_<;>intros;(try rw[Xt])
  refine(aL 0 (by simp)).trans ?_;refine(aL 1 (by simp[bw])).trans ?_;exact(aL 3 (by simp[bw])).trans (bo rfl rfl)
theorem mF (n:Net)(h6:n.vpcs.length≤6)(Mh:n.links.length≤12)(hv:∀v∈n.vpcs,bN v=0):
 MSpec prog 21 [.d (.agg (aK n))] [] (.agg [.own 4 n.vpcs.length,.own 2 1]) [.gone,.gone,.row 76 2 1 (ab (n.links.map bJ)),.gone,.row 55 3 n.vpcs.length (ab (n.vpcs.map al))]:=by
 replace hv:=Xj hv;refine mj func21 ntmps21 results21 ?_;refine am ?_<;>intros;refine bg ae ak n.vpcs (fun _=>True) (fun k=>[(4,.d (.v (.int .i64 k))),(3,.ptr 3 0),(2,.ptr 1 0),(1,.ptr 0 0)])
  (fun k=>[.box 28 ((aK n).map .d),.box 28 [.d (.v (.slice none 0 0)),.d (.v (.slice none 0 0))],.row 76 2 1 (ab (n.links.map bJ)),.box 28 [.own 4 k,.own 2 1],.row 55 3 k (ab ((n.vpcs.take k).map al))]) trivial ?_ ?_ ?_
 ·refine(au (by simp) 3 28 [.d (.v (.slice none 0 0)),.own 2 1] 0 55 3 rfl rfl rfl).trans ?_;exact wf (hb:=cI) (hbh:=cI)
 ·intro k v I3 hk _ C hC;have dH:(k:Int) < (n.vpcs.length:Int):=by omega
  have cM:=wi k (by omega);have xG:k+1≤100:=by omega
  have Ws:(Yf k n.vpcs).length=k:=by rw[Xp];omega
  have pp:=aY (hv.out v (Xl I3));have gk:=wl v pp.n4 pp.n6 pp.n8;clear pp;replace I3:=Xj I3;have AN:=I3.out;have z1z:=Ln.mk (ls:=[]) (gk);refine am ?_<;>intros;refine hC _ _ trivial ((ap 9 v.subs.length 71 4 (v.subs.map aU) rfl).trans ?_);simp only[iu,fz,gr,f7,gV,f5,aR,bR,bW,Xm,Xu,XM,XL,reduceIte,and_true,true_and,and_self,and_false,false_and,XG,XW,reduceCtorEq];refine(ap 7 1 58 3 (v.ranges.map bv) rfl).trans ?_;simp only[iu,fz,gr,f7,gV,f5,aR,bR,bW,Xm,Xu,XM,XL,reduceIte,and_true,true_and,and_self,and_false,false_and,XG,XW,reduceCtorEq];exact wf (hh:=(by rw[ag I3.out,Xo,Xm,Xu,←aI];rfl)) (hb:=cI) (hbh:=cI)
 ·intro _ C;refine am ?_<;>intros;refine(aL 0 (by simp)).trans ?_;refine(aL 1 (by simp[bw])).trans ?_;exact(aL 3 (by simp[bw])).trans (bo rfl rfl)
theorem QB {α:Type}{key:α→Int}{t:Int}{l:List α}{k:Nat}{q:α}(hk:k < i8 key t l)(hq:l[k]? =some q):key q < t:=by
 obtain⟨hl,rfl⟩:=Xn.1 hq;have:=List.not_of_lt_findIdx hk;simp at this;omega
theorem QC {α:Type}{key:α→Int}{t:Int}{l:List α}{q:α}(hq:l[i8 key t l]? =some q):t≤key q:=by
 obtain⟨hl,rfl⟩:=Xn.1 hq;have:=List.findIdx_getElem (xs:=l) (p:=fun x=>decide (t≤key x)) (w:=hl);exact of_decide_eq_true this
def ua {α:Type}(key:α→Int)(x:α)(l:List α)(k:Nat)(out:List α)(f:Bool):Prop:=
 out.length≤k+1∧((f=false∧k≤i8 key (key x) l∧out=l.take k)∨(f=true∧i8 key (key x) l < k∧out++l.drop k=df key x l))
section
variable {α:Type}{key:α→Int}{x y:α}{l:List α}{k:Nat}{out:List α}
theorem ET:ua key x l 0 [] false:=⟨XD _,.inl ⟨rfl,XD _,rfl⟩⟩
theorem EU (h:ua key x l k out true)(hy:l[k]? =some y):ua key x l (k+1) (out++[y]) true:=by
 obtain⟨h1,h2|h2⟩:=h
 ·cases h2.1
 ·refine⟨by simp;omega,.inr ⟨rfl,by omega,?_⟩⟩;rw[←h2.2.2,jJ hy];simp
theorem EV (h:ua key x l k out false)(hy:l[k]? =some y)(hg:key y>key x):ua key x l (k+1) (out++[x]++[y]) true:=by
 obtain⟨h1,h2|h2⟩:=h
 ·have hk:k=i8 key (key x) l:=by
   rcases XP k (i8 key (key x) l)with h|h
   ·have:=QB h hy;omega
   ·omega
  have hl:out.length≤k:=by rw[h2.2.2,Xp];omega
  refine⟨by simp;omega,.inr ⟨rfl,by omega,?_⟩⟩;unfold df;rw[←hk,h2.2.2,jJ hy];simp
 ·cases h2.1
theorem EW (h:ua key x l k out false)(hy:l[k]? =some y)(hg:key y < key x):ua key x l (k+1) (out++[y]) false:=by
 obtain⟨h1,h2|h2⟩:=h
 ·have hk:k < i8 key (key x) l:=by
   rcases XP k (i8 key (key x) l)with h|h
   ·exact h
   ·obtain rfl:k=i8 key (key x) l:=by omega
    have:=QC hy;omega
  have hl:out.length≤k:=by rw[h2.2.2,Xp];omega
  exact⟨by simp;omega,.inl ⟨rfl,hk,by rw[h2.2.2,ag hy]⟩⟩
 ·cases h2.1
theorem Am (h:ua key x l l.length out true):out=df key x l:=by
 obtain⟨h1,h2|h2⟩:=h
 ·cases h2.1
 ·rw[←h2.2.2,Y7,Yv]
theorem An (h:ua key x l l.length out false):out++[x]=df key x l:=by
 obtain⟨h1,h2|h2⟩:=h
 ·have:=Qd key (key x) l;unfold df;rw[show i8 key (key x) l=l.length by omega,h2.2.2];simp
 ·cases h2.1
end
theorem Ih (v:Vpc)(r:Rng)(hl:v.subs.length≤9223372036854775807)(hf:∀s∈v.subs,s.faces.length≤9223372036854775807):af prog 168 [.agg (al v),.agg (bv r)] (.tup [.agg (al (cH v r).1),.v (.int .i64 (cH v r).2)]):=by
 obtain⟨R,hR⟩:∃R,R=cH v r:=⟨_,rfl⟩;rw[←hR];replace hR:=Xj hR;have bc:=gy v hl hf;clear hl hf;by_cases hc:bN v=0
 ·have hk:=aY hc;have IT:=hk.n4;have gk:=wl v hk.n4 hk.n6 hk.n8;have hw:af prog 75 [.v (.int .i64 r.pool),.v (.int .i64 1),.v (.int .i64 65536)] (.v (.bool (cF r.pool))):=fZ _ _ _;have Dv:af prog 189 [.agg (aN r.at_)] (.v (.bool (chk r.at_.at_ r.at_.len==0))):=vq r.at_;have aP:R=if lC v r≠0 then (Vpc.zero,lC v r)else ({v with ranges:=df (·.at_.at_) r v.ranges},0):=by rw[hR.out];unfold cH;rw[if_neg (by simpa using hc)]
  unfold lC at aP;replace aP:=Xj aP;rw[hc]at bc;clear hR hc;cases b1:(chk r.at_.at_ r.at_.len==0)with
  |false=>
   have hr:R=(Vpc.zero,1):=by rw[aP.out];simp at b1;simp[b1]
   rw[b1]at Dv;rw[hr];replace hr:=Xj hr;clear hk;refine pj func168 ntmps168 results168 ?_;refine am ?_<;>intros;all_goals exact dg
  |true=>
  have c1:chk r.at_.at_ r.at_.len=0:=by simpa using b1
  rw[b1]at Dv;cases b2:cF r.pool with
  |false=>
   have hr:R=(Vpc.zero,1):=by rw[aP.out];simp[b2]
   rw[b2]at hw;rw[hr];replace hr:=Xj hr;clear hk;refine pj func168 ntmps168 results168 ?_;refine am ?_<;>intros;all_goals exact dg
  |true=>
  rw[b2]at hw;have fI:R=if (v.ranges.any fun q=>q.at_.meets r.at_)=true then (Vpc.zero,6)else if v.ranges.length=4 then (Vpc.zero,2)else ({v with ranges:=df (·.at_.at_) r v.ranges},0):=by
   rw[aP.out,c1,b2];cases(v.ranges.any fun q=>q.at_.meets r.at_)
   ·by_cases h:v.ranges.length=4<;>simp[h]
   ·simp
  have ny:r.at_.right=true:=by simp[Pfx.right,bE,c1]
  replace fI:=Xj fI;replace ny:=Xj ny;have Vr:=Xj hk.ranges;clear aP hk c1;refine pj func168 ntmps168 results168 ?_;have z1z:=Ln.mk (ls:=[]) (gk);refine am ?_<;>intros;clear gk bc Dv hw;refine bL ae ak (fun m e h=>∃(k g:Nat) (out:List Rng) (f:Bool),k≤v.ranges.length∧ua (fun r:Rng=>r.at_.at_) r v.ranges k out f∧(v.ranges.take k).all (fun q=>!(q.at_.meets r.at_))=true∧m=v.ranges.length - k∧
   e=[(9,.d (.v (.int .i64 k))),(8,.d (.v (.bool f))),(7,.ptr 8 0),(5,.d (.v (.int .i64 0))),(4,.ptr 2 0),(3,.ptr 1 0),(2,.ptr 0 0)]∧h=[.box 55 ((al v).map .d),.box 58 ((bv r).map .d),.box 55 [.d (.v (.int .i64 0)),.d (.v (.slice none 0 0)),.d (.v (.slice none 0 0))],.gone,.gone,.row 58 3 1 (ab (v.ranges.map bv)),.gone,.row 71 4 v.subs.length (ab (v.subs.map aU)),.box 55 [.d (.v (.int .i64 v.id)),.own 9 g,.own 7 v.subs.length],.row 58 3 g (ab (out.map bv))]) _ _ _ ⟨0,0,[],false,XD _,ET,rfl,rfl,rfl,rfl⟩ ?_ ?_
  ·refine(au (by simp) 8 55 [.d (.v (.int .i64 v.id)),.d (.v (.slice none 0 0)),.own 7 v.subs.length] 1 58 3 rfl rfl rfl).trans ?_;exact wf
  ·rintro m e h ⟨k,g,out,f,hk,fq,bP,hm,rfl,rfl⟩ C hC;replace hm:=Xj hm;replace bP:=Xj bP;have nL:=fq.1;replace fq:=Xj fq;have xG:out.length≤5:=by omega
   have i7:(out.length+1)*24≤140737488355328:=by clear nL hk IT;omega
   have jd:(out.length+1+1)*24≤140737488355328:=by clear nL hk IT i7;omega
   by_cases hlt:k < v.ranges.length
   ·have dH:(k:Int) < (v.ranges.length:Int):=by omega
    have cM:=wi k (by omega);obtain⟨y,hy⟩:∃y,v.ranges[k]? =some y:=⟨_,Xk hlt⟩;have Fg:=Xl hy;have nH:=pW y.at_ r.at_;rw[eZ]at nH;cases b3:y.at_.meets r.at_ with
    |true=>
     have hr:R=(Vpc.zero,6):=by rw[fI.out,if_pos (XU.2 ⟨y,Fg,b3⟩)]
     rw[b3]at nH;rw[hr];replace hr:=Xj hr;refine am ?_<;>intros;all_goals exact dg
    |false=>
     rw[b3]at nH;have bB:y.at_.at_≠r.at_.at_:=vv (kj (Vr.out y Fg)) ny.out b3;have lg:=d7 (p:=fun q:Rng=>!(q.at_.meets r.at_)) hy bP.out (by rw[b3];rfl);replace lg:=Xj lg;replace bB:=Xj bB;replace Fg:=Xj Fg;cases f with
     |true=>
      have DG:=Xj (EU fq.out hy);refine am ?_<;>intros;refine hC _ _ _ _ _ ?_ ⟨k+1,g+1,out++[y],true,hlt,DG.out,lg.out,rfl,rfl,rfl⟩ (wf (hh:=(by simp only[al,bv,Xo,Xm,Xu,←aI];rfl)));have:=hm.out;omega
     |false=>
      cases b4:decide (y.at_.at_>r.at_.at_)with
      |true=>
       have DG:=Xj (EV fq.out hy (of_decide_eq_true b4));refine am ?_<;>intros;refine hC _ _ _ _ _ ?_ ⟨k+1,g+1+1,out++[r]++[y],true,hlt,DG.out,lg.out,rfl,rfl,rfl⟩ (wf (hh:=(by simp only[al,bv,Xo,Xm,Xu,←aI,X3];rfl)));have:=hm.out;omega
      |false=>
       have DG:=Xj (EW fq.out hy (by have:=bB.out;have:=of_decide_eq_false b4;show y.at_.at_ < r.at_.at_;omega));refine am ?_<;>intros;refine hC _ _ _ _ _ ?_ ⟨k+1,g+1,out++[y],false,hlt,DG.out,lg.out,rfl,rfl,rfl⟩ (wf (hh:=(by simp only[al,bv,Xo,Xm,Xu,←aI];rfl)));have:=hm.out;omega
   ·obtain rfl:k=v.ranges.length:=by omega
    have cf:(v.ranges.any fun q=>q.at_.meets r.at_)=false:=by
     have bP:=bP.out;rw[Xt]at bP;rw[Yh];intro x hx;have:=XE.1 bP x hx;simpa using this
    have jV:R=if v.ranges.length=4 then (Vpc.zero,2)else ({v with ranges:=df (·.at_.at_) r v.ranges},0):=by rw[fI.out,if_neg (by simp[cf])]
    clear fI cf;cases f with
    |true=>
     have he:=Am fq.out;have pF:out.length=v.ranges.length+1:=by rw[he,fe]
     rw[←he]at jV;replace he:=Xj he;by_cases h4:v.ranges.length=4
     ·rw[if_pos h4]at jV;have hd:decide ((out.length:Int)>4)=true:=by simp;omega
      rw[jV];replace jV:=Xj jV;replace pF:=Xj pF;refine am ?_<;>intros;all_goals exact dg
     ·rw[if_neg h4]at jV;have hd:decide ((out.length:Int)>4)=false:=by simp;omega
      rw[jV];replace jV:=Xj jV;replace pF:=Xj pF;exact aZ;all_goals exact dg
    |false=>
     have he:=An fq.out;have pF:out.length+1=v.ranges.length+1:=by have h:=congrArg I' he;rw[fe]at h;simpa using h
     rw[←he]at jV;replace he:=Xj he;by_cases h4:v.ranges.length=4
     ·rw[if_pos h4]at jV;have hd:decide (((out.length+1:Nat):Int)>4)=true:=by simp;omega
      rw[jV];replace jV:=Xj jV;replace pF:=Xj pF;refine am ?_<;>intros;all_goals exact dg
     ·rw[if_neg h4]at jV;have hd:decide (((out.length+1:Nat):Int)>4)=false:=by simp;omega
      rw[jV];replace jV:=Xj jV;replace pF:=Xj pF;refine am ?_<;>intros;all_goals(simp only[Xo,Xm,Xu];exact dg)
 ·have h1:(bN v !=0)=true:=by simpa using hc
  have hr:R=(Vpc.zero,bN v):=by rw[hR.out];unfold cH;rw[if_pos hc]
  rw[hr];replace hr:=Xj hr;clear hR;refine pj func168 ntmps168 results168 ?_;refine am ?_<;>intros;exact dg
def Pr:List (List D)→List (List D)→Prop
 |[],[]=>True
 |r::l,s::m=>pO r s∧Pr l m
 |_,_=>False
theorem wm:∀l:List (List D),Pr l l
 |[]=>trivial
 |r::l=>⟨ym r,wm l⟩
theorem Gk:∀{a b c d:List (List D)},Pr a b→Pr c d→Pr (a++c) (b++d)
 |[],[],_,_,_,h=>h
 |[],_::_,_,_,h,_=>h.elim
 |_::_,[],_,_,h,_=>h.elim
 |_::_,_::_,_,_,⟨h1,h2⟩,h=>⟨h1,Gk h2 h⟩
theorem Gl {A B:List (List D)}{r s:List D}(h:pO r s):Pr (A++r::B) (A++s::B):=Gk (wm _) ⟨h,wm _⟩
theorem Lx:∀{l m:List (List D)},Pr l m→l.length=m.length∧∀(j:Nat) (a b:List D),l[j]? =some a→m[j]? =some b→pO a b
 |[],[],_=>⟨rfl,fun j a b h=>by simp at h⟩
 |[],_::_,h=>h.elim
 |_::_,[],h=>h.elim
 |r::l,s::m,⟨h1,h2⟩=>by
  obtain⟨q1,q2⟩:=Lx h2;refine⟨by simp[q1],fun j a b ha hb=>?_⟩;cases j with
  |zero=>simp at ha hb;subst ha;subst hb;exact h1
  |succ j=>exact q2 j a b (by simpa using ha) (by simpa using hb)
theorem ai.sl {sz:Nat}{l m:List (List D)}(h:Pr l m)(h1:∀r∈m,∀d∈r,d.one=true):ai (.sl sz l) (.sl sz m):=fun M w v hr=>by
 obtain⟨q1,q2⟩:=Lx h;cases hr with
 |nil _ ao cap hm=>
  have:m=[]:=X9 (by rw[←q1];rfl);subst this;exact .nil sz ao cap hm
 |sl _ rows b off cap f hM hb hc hm hr _ dy bA=>
  rw[q1];have row:∀(i:Nat) (s:List D),m[i]? =some s→∃r,l[i]? =some r∧pO r s:=fun i s hs=>by
   obtain⟨hlt,-⟩:=Xn.1 hs;exact⟨l[i]'(by omega),Xk (by omega),q2 i _ s (Xk (by omega)) hs⟩
  refine .sl sz m b off cap f hM hb (by omega) hm (fun s hs=>?_) h1 (fun i j hi hj=>dy i j (by omega) hj) (fun i j s d hs hd=>?_)
  ·obtain⟨i,hi,rfl⟩:=X0.1 hs;obtain⟨r,e1,e2⟩:=row i _ (Xk hi);rw[←(uj e2).1];exact hr r (Xl e1)
  ·obtain⟨r,e1,e2⟩:=row i s hs;obtain⟨p1,p2⟩:=uj e2;obtain⟨hlt,-⟩:=Xn.1 hd;exact p2 j _ d (Xk (by omega)) hd M w _ (bA i j r _ e1 (Xk (by omega)))
theorem Ly {v:Vpc}(h:VpcOK v):bN v=0:=by
 rw[Kd];refine⟨?_,?_,h.ar,h.as_⟩
 ·simp only[kM,Zm,decide_eq_false_iff_not,Yh];refine⟨by have:=h.n4;omega,by have:=h.n6;omega,fun s hs=>?_⟩;have h8:=h.n8 s hs;simp only[nq,ZI,Zm,decide_eq_false_iff_not,Yh];refine⟨by omega,fun f hf=>?_⟩;have:=h8.2 f hf;simp[pA];omega
 ·unfold pB;simp only[Xy,XE,fX];exact⟨⟨h.id,h.rr,h.rs⟩,h.ranges,h.subs⟩
theorem Ii {v:Vpc}{r:Rng}(h:(cH v r).2=0):bN (cH v r).1=0:=by
 unfold cH at h ⊢;by_cases h1:bN v≠0
 ·rw[if_pos h1]at h;exact absurd h h1
 rw[if_neg h1]at h ⊢;have hk:=aY (by simpa using h1);by_cases h2:lC v r≠0
 ·rw[if_pos h2]at h;exact absurd h h2
 rw[if_neg h2]at h ⊢;have h3:lC v r=0:=by simpa using h2
 obtain⟨g1,g2,g3,g4⟩:cF r.pool=true∧chk r.at_.at_ r.at_.len=0∧(v.ranges.any fun q=>q.at_.meets r.at_)=false∧v.ranges.length≠4:=by
  unfold lC at h3;generalize (v.ranges.any fun q=>q.at_.meets r.at_)=M at*;generalize cF r.pool=I at*;grind
 have ny:r.at_.right=true:=by simp[Pfx.right,bE,g2]
 have cf:∀q∈v.ranges,q.at_.meets r.at_=false:=fun q hq=>by simpa using Yh.1 g3 q hq
 have bB:∀q∈v.ranges,q.at_.at_≠r.at_.at_:=fun q hq=>vv (kj (hk.ranges q hq)) ny (cf q hq);refine Ly ⟨?_,hk.n6,hk.n8,hk.id,gx hk.rr bB,hk.rs,fun q hq=>?_,fun s hs=>?_,?_,hk.as_⟩
 ·simp only[fe];have:=hk.n4;omega
 ·rcases mn.1 hq with rfl|hq
  ·simp[ey,g1,g2]
  ·exact hk.ranges q hq
 ·have h4:=hk.subs s hs;unfold ml at h4 ⊢;simp only[Xy]at h4 ⊢;refine⟨h4.1,?_,h4.2.2⟩;have h5:=h4.2.1;unfold fB at h5 ⊢;obtain⟨q,hq,h6⟩:=XU.1 h5;exact XU.2 ⟨q,mn.2 (.inr hq),h6⟩
 ·rw[oh];have hp:((df (fun x:Rng=>x.at_.at_) r v.ranges).map (·.at_)).Perm (r.at_::v.ranges.map (·.at_)):=by
   refine((fY (fun x:Rng=>x.at_.at_) r v.ranges).map (·.at_)).trans ?_;rw[Xo];exact List.perm_append_singleton _ _
  refine(List.Perm.pairwise_iff (R:=fun a b:Pfx=>b.meets a=false) (fun {a b} gE=>by rw[pX];exact gE) hp).2 ?_;rw[YC];refine⟨fun a ha=>?_,oh.1 hk.ar⟩;obtain⟨q,hq,rfl⟩:=XQ.1 ha;exact cf q hq
theorem Ij (n:Net)(id:Int)(hz:xE n):af prog 78 [.agg (aK n),.v (.int .i64 id)] (.tup [.agg (aK (iD n id).1),.v (.int .i64 (iD n id).2)]):=by
 obtain⟨R,hR⟩:∃R,R=iD n id:=⟨_,rfl⟩;rw[←hR];replace hR:=Xj hR;have bc:=jt n hz;by_cases hc:cK n=0
 ·have bF:=gO.1 hc;have h6:=bF.n6;have gk:=mF n bF.n6 bF.n12 bF.vp;have hw:af prog 75 [.v (.int .i64 id),.v (.int .i64 1),.v (.int .i64 65536)] (.v (.bool (cF id))):=fZ _ _ _;have cY:=gJ n id (by omega);rw[jR]at cY
  have aP:R=if hO n id≠0 then (Net.zero,hO n id)else ({n with vpcs:=df (·.id) ⟨id,[],[]⟩ n.vpcs},0):=by rw[hR.out];unfold iD;rw[if_neg (by simpa using hc)]
  unfold hO at aP;rw[hc]at bc;clear hR hc;cases b1:cF id with
  |false=>
   have hr:R=(Net.zero,3):=by rw[aP];simp[b1]
   rw[b1]at hw;rw[hr];clear aP hr bF;refine pj func78 ntmps78 results78 ?_;refine am ?_<;>intros;all_goals exact dg
  |true=>
  rw[b1]at hw;cases hx:eO n id with
  |some i=>
   obtain⟨v,hv,he,hi,sY⟩:=ei hx;have hr:R=(Net.zero,6):=by rw[aP];simp[b1,sY]
   rw[hx]at cY
   simp only at cY
   have jU:decide ((i:Int)≥0)=true:=by simp
   rw[hr];clear aP hr bF hv he sY hx;refine pj func78 ntmps78 results78 ?_;refine am ?_<;>intros;all_goals exact dg
  |none=>
  have OU:=dY hx;rw[hx]at cY
  simp only at cY
  have ud:decide ((-1:Int)≥0)=false:=rfl;by_cases DN:n.vpcs.length=6
  ·have hr:R=(Net.zero,2):=by rw[aP];simp[b1,OU,DN]
   have hd:decide ((n.vpcs.length:Int)≥6)=true:=by simp;omega
   rw[hr];clear aP hr bF OU hx;replace DN:=Xj DN;refine pj func78 ntmps78 results78 ?_;refine am ?_<;>intros;all_goals exact dg
  ·have hr:R=({n with vpcs:=df (·.id) ⟨id,[],[]⟩ n.vpcs},0):=by rw[aP];simp[b1,OU,DN]
   have hd:decide ((n.vpcs.length:Int)≥6)=false:=by simp;omega
   have bB:=v7 OU;clear aP bF OU hx;replace hr:=Xj hr;replace bB:=Xj bB;refine pj func78 ntmps78 results78 ?_;have z1z:=Ln.mk (ls:=[]) (gk);refine am ?_<;>intros;clear gk bc hw cY
   refine bL ae ak (fun m e h=>∃(k g:Nat) (out:List Vpc) (f:Bool),k≤n.vpcs.length∧ua (fun v:Vpc=>v.id) ⟨id,[],[]⟩ n.vpcs k out f∧m=n.vpcs.length - k∧
    e=[(10,.d (.v (.int .i64 k))),(9,.d (.v (.bool f))),(8,.own 6 n.vpcs.length),(7,.ptr 7 0),(5,.d (.v (.int .i64 0))),(4,.ptr 1 0),(2,.ptr 0 0),(1,.d (.v (.int .i64 id)))]∧h=[.box 28 ((aK n).map .d),.box 28 [.d (.v (.slice none 0 0)),.d (.v (.slice none 0 0))],.gone,.gone,.row 76 2 1 (ab (n.links.map bJ)),.gone,.row 55 3 n.vpcs.length (ab (n.vpcs.map al)),.box 28 [.own 8 g,.own 4 1],.row 55 3 g (ab (out.map al))]) _ _ _ ⟨0,0,[],false,XD _,ET,rfl,rfl,rfl⟩ ?_ ?_
   ·refine(au (by simp) 7 28 [.d (.v (.slice none 0 0)),.own 4 1] 0 55 3 rfl rfl rfl).trans ?_;exact wf
   ·rintro m e h ⟨k,g,out,f,hk,fq,hm,rfl,rfl⟩ C hC;replace hm:=Xj hm;have nL:=fq.1;replace fq:=Xj fq;have xG:out.length≤7:=by omega
    have i7:(out.length+1)*56≤140737488355328:=by clear nL hk h6;omega
    have jd:(out.length+1+1)*56≤140737488355328:=by clear nL hk h6 i7;omega
    by_cases hlt:k < n.vpcs.length
    ·have dH:(k:Int) < (n.vpcs.length:Int):=by omega
     have cM:=wi k (by omega);obtain⟨y,hy⟩:∃y,n.vpcs[k]? =some y:=⟨_,Xk hlt⟩;have Vs:=bB.out y (Xl hy);replace Vs:=Xj Vs;cases f with
     |true=>
      have DG:=Xj (EU fq.out hy);refine am ?_<;>intros;refine hC _ _ _ _ _ ?_ ⟨k+1,g+1,out++[y],true,hlt,DG.out,rfl,rfl,rfl⟩ (wf (hh:=(by simp only[aK,al,Xo,Xm,Xu,←aI];rfl)));have:=hm.out;omega
     |false=>
      cases b4:decide (y.id>id)with
      |true=>
       have DG:=Xj (EV fq.out hy (of_decide_eq_true b4));refine am ?_<;>intros;refine hC _ _ _ _ _ ?_ ⟨k+1,g+1+1,out++[⟨id,[],[]⟩]++[y],true,hlt,DG.out,rfl,rfl,rfl⟩ ((tu 8 rfl (by simp) (rows':=ab ((out++[(⟨id,[],[]⟩:Vpc)]++[y]).map al)) (by(try rw[aI]);simp only[Xo,Xm,Xu,X3,X8,Ya];exact qO dg) (kH (fun _=>rfl) _)).trans (wf));have:=hm.out;omega
      |false=>
       have DG:=Xj (EW fq.out hy (by have:=Vs.out;have:=of_decide_eq_false b4;show y.id < id;omega));refine am ?_<;>intros;refine hC _ _ _ _ _ ?_ ⟨k+1,g+1,out++[y],false,hlt,DG.out,rfl,rfl,rfl⟩ (wf (hh:=(by simp only[aK,al,Xo,Xm,Xu,←aI];rfl)));have:=hm.out;omega
    ·obtain rfl:k=n.vpcs.length:=by omega
     have j5:=hr.out;clear hC;cases f with
     |true=>
      have he:=Am fq.out;rw[←he]at j5;rw[j5];replace he:=Xj he;replace j5:=Xj j5;exact aZ;all_goals exact dg
     |false=>
      have he:=An fq.out;rw[←he]at j5;rw[j5];replace he:=Xj he;replace j5:=Xj j5;refine am ?_<;>intros;all_goals
       simp only[aK,Xo,Xm,Xu];exact ai.tup ⟨ai.agg ⟨ai.sl (Gl dg) (by intro r hr d hd;obtain⟨x,-,rfl⟩:=XQ.1 (by have h:r∈(out++[(⟨id,[],[]⟩:Vpc)]).map al:=(by rw[Xo];exact hr);exact h);exact XE.1 (show (al x).all D.one=true from rfl) d hd),ai.refl _,trivial⟩ rfl,ai.refl _,trivial⟩
 ·have h1:(cK n !=0)=true:=by simpa using hc
  have hr:R=(Net.zero,cK n):=by rw[hR.out];unfold iD;rw[if_pos hc]
  rw[hr];replace hr:=Xj hr;clear hR;refine pj func78 ntmps78 results78 ?_;refine am ?_<;>intros;exact dg
theorem yZ {n:Net}(bF:NetOK n){i:Nat}{v:Vpc}(hv:n.vpcs[i]? =some v){r:Rng}(hg:(cH v r).2=0):(cK {n with vpcs:=n.vpcs.set i (cH v r).1}=0↔ez {n with vpcs:=n.vpcs.set i (cH v r).1}=true)∧xE {n with vpcs:=n.vpcs.set i (cH v r).1}:=by
 have pp:=bF.vp v (Xl hv);have MM:=Cm hg;have bc:bN (cH v r).1=0:=Ii hg;obtain⟨hi,hve⟩:=Xn.1 hv;have IW:(n.vpcs.set i (cH v r).1).map (·.id)=n.vpcs.map (·.id):=by
  rw[List.map_set,MM.1];apply Yj;intro j;rw[Z3];split
  ·rename_i hj;subst hj;rw[XC,if_pos hi,Xz,hv];rfl
  ·rfl
 generalize (cH v r).1=w at*;have RS:∀u∈n.vpcs.set i w,bN u=0:=fun u hu=>by
  rcases Y4 hu with hu|rfl
  ·exact bF.vp u hu
  ·exact bc
 have Gv:(n.vpcs.set i w).Pairwise fun a b=>a.id < b.id:=by
  have h1:=bF.rise;rw[←Y3 (f:=fun v:Vpc=>v.id) (R:=fun a b:Int=>a < b)]at h1 ⊢;rw[IW];exact h1
 have MT:∀x,(fL {n with vpcs:=n.vpcs.set i w} x).isSome=(fL n x).isSome:=fun x=>by
  have key:∀l:List Vpc,(l.find? fun v=>v.id==x).isSome=decide (x∈l.map (·.id)):=fun l=>by
   induction l with
   |nil=>simp
   |cons a l ih=>
    rw[List.find?_cons];split
    ·rename_i h;simp at h;simp[h]
    ·rename_i h;rw[ih];simp at h;simp;exact fun e=>absurd e.symm h
  unfold fL;simp only;rw[key,key,IW]
 have i4:∀l∈n.links,kT {n with vpcs:=n.vpcs.set i w} l=true:=fun l hl=>by
  have:=bF.lk l hl;unfold kT at this ⊢;rw[MT,MT];exact this
 refine⟨⟨fun h=>(gO.1 h).pe,fun h=>gO.2 ⟨by simp;exact bF.n6,bF.n12,RS,Gv,i4,bF.rk,h⟩⟩,fun u hu=>?_⟩;have:=aY (RS u hu);exact⟨by have:=this.n6;omega,fun s hs=>by have:=(this.n8 s hs).1;omega⟩
theorem Ik (n:Net)(id:Int)(r:Rng)(hz:xE n):af prog 82 [.agg (aK n),.v (.int .i64 id),.agg (bv r)] (.tup [.agg (aK (gP n id r).1),.v (.int .i64 (gP n id r).2)]):=by
 obtain⟨R,hR⟩:∃R,R=gP n id r:=⟨_,rfl⟩;rw[←hR];replace hR:=Xj hR;have bc:=jt n hz;by_cases hc:cK n=0
 ·have bF:=gO.1 hc;have h6:=bF.n6;have gk:=mF n bF.n6 bF.n12 bF.vp;have cY:=gJ n id (by omega);rw[jR]at cY
  rw[hc]at bc;have ud:decide ((-1:Int) < 0)=true:=rfl;cases hx:eO n id with
  |none=>
   rw[hx]at cY
   simp only at cY
   have hr:R=(Net.zero,5):=by rw[hR.out];unfold gP;rw[if_neg (by simpa using hc),hx]
   rw[hr];clear hr hR bF hx hc;refine pj func82 ntmps82 results82 ?_;refine am ?_<;>intros;all_goals exact dg
  |some i=>
   obtain⟨v,hv,he,hi,sY⟩:=ei hx;rw[hx]at cY
   simp only at cY
   have RT:=hz v (Xl hv);have TS:=Ih v r RT.1 RT.2;have jU:decide ((i:Int) < 0)=false:=by simp
   have MS:(0:Int)≤(i:Int):=by omega
   have hiL:(i:Int) < (n.vpcs.length:Int):=by omega
   by_cases hg:(cH v r).2=0
   ·have Vt:=yZ bF hv hg;have Vu:=jt _ Vt.2;have aP:R=if ez {n with vpcs:=n.vpcs.set i (cH v r).1}=true then ({n with vpcs:=n.vpcs.set i (cH v r).1},0)else (Net.zero,9):=by
     rw[hR.out];unfold gP;rw[if_neg (by simpa using hc),hx];simp only[hv];rw[if_neg (by simpa using hg)]
    rw[hg]at TS;have O9:=Vt.1;clear hR bF hx hc hg sY Vt hz;replace he:=Xj he;generalize (cH v r).1=w at*;have bY:(ab (n.vpcs.map al)).set i [.d (.v (.int .i64 w.id)),.d (.sl 3 (w.ranges.map bv)),.d (.sl 4 (w.subs.map aU))]=ab ((n.vpcs.set i w).map al):=bO al n.vpcs i w;by_cases hq:cK {n with vpcs:=n.vpcs.set i w}=0
    ·have hr:R=({n with vpcs:=n.vpcs.set i w},0):=by rw[aP,if_pos (O9.1 hq)]
     rw[hq]at Vu;rw[hr];clear hr aP hq O9;refine pj func82 ntmps82 results82 ?_;have z1z:=Ln.mk (ls:=[]) (gk);exact aZ;all_goals exact dg
    ·have hr:R=(Net.zero,9):=by rw[aP,if_neg (fun h=>hq (O9.2 h))]
     have hqb:(cK {n with vpcs:=n.vpcs.set i w} !=0)=true:=by simpa using hq
     rw[hr];clear hr aP hq O9;generalize cK {n with vpcs:=n.vpcs.set i w}=Q at*;refine pj func82 ntmps82 results82 ?_;have z1z:=Ln.mk (ls:=[]) (gk);refine am ?_<;>intros;all_goals exact dg
   ·have hr:R=(Net.zero,(cH v r).2):=by
     rw[hR.out];unfold gP;rw[if_neg (by simpa using hc),hx];simp only[hv];rw[if_pos hg]
    have O4:((cH v r).2 !=0)=true:=by simpa using hg
    rw[hr];clear hr hR bF hx hc hg sY hz;replace he:=Xj he;generalize (cH v r).1=w at*;generalize (cH v r).2=E at*;refine pj func82 ntmps82 results82 ?_;refine am ?_<;>intros;all_goals exact dg
 ·have h1:(cK n !=0)=true:=by simpa using hc
  have hr:R=(Net.zero,cK n):=by rw[hR.out];unfold gP;rw[if_pos hc]
  rw[hr];replace hr:=Xj hr;clear hR;refine pj func82 ntmps82 results82 ?_;refine am ?_<;>intros;exact dg
def Ao {α:Type}(key:α→Int)(x:α)(l:List α)(q:Nat)(out:List α):Prop:=q≤l.length∧out=l.take q++x::l.drop q∧∀y∈l.drop q,key x < key y
section
variable {α:Type}{key:α→Int}{x y:α}{l out:List α}{q:Nat}
theorem Lz:Ao key x l l.length (l++[x]):=⟨XB _,by simp,by simp⟩
theorem LB (h:Ao key x l q out):out[q]? =some x:=by
 rw[h.2.1,XK (by rw[Xp];omega),Xp,show q - min q l.length=0 by have:=h.1;omega];rfl
theorem LC (h:Ao key x l q out)(h0:0 < q)(hy:l[q - 1]? =some y):out[q - 1]? =some y:=by
 rw[h.2.1,X4 (by rw[Xp];have:=h.1;omega),XS (by omega),hy]
theorem LD (h:Ao key x l q out)(h0:0 < q)(hy:l[q - 1]? =some y)(hg:key y>key x):Ao key x l (q - 1) ((out.set (q - 1) x).set q y):=by
 obtain⟨h1,h2,h3⟩:=h;obtain⟨hlt,he⟩:=Xn.1 hy;obtain⟨n,rfl⟩:∃n,q=n+1:=⟨q - 1,by omega⟩;simp only[Nat.add_sub_cancel]at hy hlt he ⊢;have hd:=jJ hy;have ht:=ag hy;refine⟨by omega,?_,fun z hz=>?_⟩
 ·rw[h2,ht,hd];have hl:(l.take n).length=n:=by rw[Xp];omega
  rw[X3,Yt _ _ (by omega),hl,YG,Yt _ _ (by omega),hl];simp
 ·rw[hd]at hz;rcases X7.1 hz with rfl|hz
  ·exact hg
  ·exact h3 z hz
theorem y7 (h:Ao key x l q out)(hs:l.Pairwise fun a b=>key a < key b)(hl:∀y,0 < q→l[q - 1]? =some y→key y < key x):out=df key x l:=by
 obtain⟨h1,h2,h3⟩:=h;have:i8 key (key x) l=q:=by
  refine pT h1 (fun j hj Uh=>?_) (fun j hj V1=>?_)
  ·have e1:=hl l[q - 1] (by omega) (Xk (by omega));rcases XP j (q - 1)with h|h
   ·have:=XF.1 hs j (q - 1) hj (by omega) h;omega
   ·obtain rfl:j=q - 1:=by omega
    exact e1
  ·have:=h3 l[j] (X0.2 ⟨j - q,by rw[XI];omega,by rw[List.getElem_drop];congr 1;omega⟩);omega
 unfold df;rw[this,h2]
end
theorem sM {α:Type}{f:α→Bool}{l:List α}{k:Nat}{x:α}(h:l[k]? =some x):(l.take (k+1)).filter f=if f x then (l.take k).filter f++[x]else (l.take k).filter f:=by
 rw[ag h,YW];cases hx:f x<;>simp[hx]
def wn (n:Net)(a b:Int):Bool:=n.vpcs.any fun v=>(aW n v.id==aW n a)&&n.vpcs.any fun w=>(aW n w.id==aW n b)&&((v.id !=w.id)&&dE v w)
theorem Gm {n:Net}{a b:Int}{v w:Vpc}(hv:v∈n.vpcs)(hw:w∈n.vpcs)(h1:aW n v.id=aW n a)(h2:aW n w.id=aW n b)(h3:v.id≠w.id)(h4:dE v w=true):wn n a b=true:=
 XU.2 ⟨v,hv,by simp only[h1,beq_self_eq_true,Yr];exact XU.2 ⟨w,hw,by simp[h2,h3,h4]⟩⟩
theorem Gn {n:Net}{a b:Int}(h:wn n a b=false){v w:Vpc}(hv:v∈n.vpcs)(hw:w∈n.vpcs)(h1:aW n v.id=aW n a)(h2:aW n w.id=aW n b)(h3:v.id≠w.id):dE v w=false:=by
 cases hb:dE v w with
 |false=>rfl
 |true=>rw[Gm hv hw h1 h2 h3 hb]at h;cases h
theorem Il {n:Net}{l:Lnk}{x y:Int}{links:List Lnk}(hp:links.Perm (n.links++[l])):aW {n with links:=links} x=aW {n with links:=links} y↔fM (aW n) l x=fM (aW n) l y:=by
 rw[wj,wj,←ER];exact EQ fun m=>hp.mem_iff
theorem y8 {n:Net}(a b:Int){x y:Int}:fM (aW n) (fC a b) x=fM (aW n) (fC a b) y↔aW n x=aW n y∨(aW n x=aW n a∧aW n y=aW n b)∨(aW n x=aW n b∧aW n y=aW n a):=by
 rw[Ie];rcases sG a b with⟨e,-⟩|⟨e,-⟩
 ·rw[e]
 ·rw[e];constructor
  ·rintro (h|h|h)
   ·exact .inl h
   ·exact .inr (.inr h)
   ·exact .inr (.inl h)
  ·rintro (h|h|h)
   ·exact .inl h
   ·exact .inr (.inr h)
   ·exact .inr (.inl h)
theorem LF {n:Net}{i j:Nat}{v w:Vpc}(hv:n.vpcs[i]? =some v)(hw:n.vpcs[j]? =some w)(h:v.id≠w.id):i≠j:=fun e=>by
 subst e;rw[hv]at hw;cases hw;exact h rfl
theorem EY {n:Net}(bF:NetOK n)(a b:Int):ez {n with links:=df fF (fC a b) n.links}=!wn n a b:=by
 have Wu:=fun x y=>Il (n:=n) (l:=fC a b) (x:=x) (y:=y) (fY fF (fC a b) n.links);cases hw:wn n a b with
 |true=>
  unfold wn at hw;obtain⟨v,hv,h⟩:=XU.1 hw;rw[Xy,beq_iff_eq]at h;obtain⟨h1,h⟩:=h;obtain⟨w,hw,h⟩:=XU.1 h;simp only[Xy,beq_iff_eq,bne_iff_ne,ne_eq]at h;obtain⟨h2,h3,h4⟩:=h;obtain⟨i,hi⟩:=Ze.1 hv;obtain⟨j,hj⟩:=Ze.1 hw;refine sL (n:={n with links:=df fF (fC a b) n.links}) (LF hi hj h3) hi hj ?_;unfold jK;rw[h4,YA,beq_iff_eq,Wu,y8];exact .inr (.inl ⟨h1,h2⟩)
 |false=>
  refine pZ (n:={n with links:=df fF (fC a b) n.links}) fun i v w hv AB=>?_;have bB:=Gj bF.rise hv AB;have AN:=Xl hv;have cj:=Yg AB;unfold jK;cases hc:dE v w with
  |false=>rw[Bool.and_false]
  |true=>
   rw[YA,beq_eq_false_iff_ne,ne_eq,Wu,y8];rintro (h|h|h)
   ·obtain⟨j,hj⟩:=Ze.1 cj;have:=sL (n:=n) (LF (n:=n) hj hv bB).symm hv hj (by unfold jK;rw[hc,h];simp);rw[bF.pe]at this;cases this
   ·have:=Gn hw AN cj h.1 h.2 bB.symm;rw[hc]at this;cases this
   ·have:=Gn hw cj AN h.2 h.1 bB;rw[tM,hc]at this;cases this
theorem Ow {y l:Lnk}(h1:1≤y.b∧y.b≤65536)(h2:1≤l.b∧l.b≤65536):fF y < fF l↔y.a < l.a∨(y.a=l.a∧y.b < l.b):=by
 unfold fF;constructor<;>intro h<;>omega
theorem ws (n:Net)(a b:Int):jB n a b=decide (fC a b∈n.links):=by
 unfold jB;rw[Yi,XU];simp
theorem Ap {l:List Lnk}(hn:l.Nodup){x:Lnk}{i:Nat}(h:l.findIdx? (fun y=>decide (x=y))=some i):l.filter (fun y=>!decide (y=x))=l.eraseIdx i:=by
 obtain⟨hi,he,-⟩:=XH.1 h;have he:x=l[i]:=by simpa using he
 subst he;have e1:l=l.take i++l[i]::l.drop (i+1):=by rw[←YQ hi,YX]
 have hd:∀j (hj:j < l.length),j≠i→l[j]≠l[i]:=fun j hj jW he=>by
  rcases H' jW with h|h
  ·exact XF.1 hn j i hj hi h he
  ·exact XF.1 hn i j hi hj h he.symm
 have key:∀(A B:List Lnk) (x:Lnk),(∀y∈A,y≠x)→(∀y∈B,y≠x)→(A++x::B).filter (fun y=>!decide (y=x))=A++B:=fun A B x hA hB=>by
  rw[YW,Zu];simp only[decide_true,Z0,YB,if_false];rw[Y0.2 (fun y hy=>by simpa using hA y hy),Y0.2 (fun y hy=>by simpa using hB y hy)]
 refine(congrArg (List.filter _) e1).trans ((key _ _ _ (fun y hy=>?_) fun y hy=>?_).trans (YK l i).symm)
 ·obtain⟨j,hj,rfl⟩:=X0.1 hy;rw[ZA];rw[Xp]at hj;exact hd j (by omega) (by omega)
 ·obtain⟨j,hj,rfl⟩:=X0.1 hy;rw[List.getElem_drop];rw[XI]at hj;exact hd (i+1+j) (by omega) (by omega)
theorem CY {n:Net}(bF:NetOK n):n.links.Nodup:=bF.lsort.imp fun h e=>by rw[e]at h;omega
theorem Im (n:Net)(a b:Int)(hz:xE n):af prog 80 [.agg (aK n),.v (.int .i64 a),.v (.int .i64 b)] (.tup [.agg (aK (iC n a b).1),.v (.int .i64 (iC n a b).2)]):=by
 obtain⟨R,hR⟩:∃R,R=iC n a b:=⟨_,rfl⟩;rw[←hR];replace hR:=Xj hR;have bc:=jt n hz;by_cases hc:cK n=0
 ·have bF:=gO.1 hc;have Mh:=bF.n12;have gk:=mF n bF.n6 bF.n12 bF.vp;have MU:=sK n a b (by omega);rw[ws]at MU;rw[hc]at bc;have fR:fC a b∈n.links↔(n.links.findIdx? (fun l=>decide (fC a b=l))).isSome=true:=by
   rw[List.findIdx?_isSome,XU];simp
  cases hf:n.links.findIdx? (fun l=>decide (fC a b=l))with
  |none=>
   have I9:fC a b∉n.links:=fun h=>by rw[fR,hf]at h;cases h
   have hr:R=(Net.zero,5):=by rw[hR.out];unfold iC;rw[if_neg (by simpa using hc),hf]
   rw[decide_eq_false I9]at MU;rw[hr];clear hr hR hf hc bF I9 fR;refine pj func80 ntmps80 results80 ?_;refine am ?_<;>intros;all_goals exact dg
  |some i=>
   have Fg:fC a b∈n.links:=by rw[fR,hf];rfl
   have hr:R=({n with links:=n.links.filter fun y=>!decide (y=fC a b)},0):=by rw[hR.out];unfold iC;rw[if_neg (by simpa using hc),hf,Ap (CY bF) hf]
   rw[decide_eq_true Fg]at MU;replace hr:=Xj hr;clear hR hf hc bF Fg fR;refine pj func80 ntmps80 results80 ?_;have z1z:=Ln.mk (ls:=[]) (gk);refine am ?_<;>intros;clear gk bc MU;refine bL ae ak (fun m e h=>∃(k g:Nat),k≤n.links.length∧m=n.links.length - k∧
    e=[(10,.d (.v (.int .i64 k))),(9,.ptr 7 0),(7,.d (.v (.int .i64 0))),(6,.ptr 1 0),(3,.ptr 0 0),(2,.d (.v (.int .i64 b))),(1,.d (.v (.int .i64 a)))]∧h=[.box 28 ((aK n).map .d),.box 28 [.d (.v (.slice none 0 0)),.d (.v (.slice none 0 0))],.gone,.gone,.row 76 2 1 (ab (n.links.map bJ)),.gone,.row 55 3 n.vpcs.length (ab (n.vpcs.map al)),.box 28 [.own 6 n.vpcs.length,.own 8 g],.row 76 2 g (ab (((n.links.take k).filter fun y=>!decide (y=fC a b)).map bJ))]) _ _ _ ⟨0,0,XD _,rfl,rfl,rfl⟩ ?_ ?_
   ·refine(au (by simp) 7 28 [.own 6 n.vpcs.length,.d (.v (.slice none 0 0))] 1 76 2 rfl rfl rfl).trans ?_;exact wf
   ·rintro m e h ⟨k,g,hk,hm,rfl,rfl⟩ C hC;replace hm:=Xj hm;by_cases hlt:k < n.links.length
    ·have dH:(k:Int) < (n.links.length:Int):=by omega
     have cM:=wi k (by omega);obtain⟨y,hy⟩:∃y,n.links[k]? =some y:=⟨_,Xk hlt⟩;have he:([y.a,y.b] !=[if b < a then b else a,if a < b then b else a])=!decide (y=fC a b):=congrArg (fun t=>!t) (v4 y (fC a b));have gS:((n.links.take k).filter fun y=>!decide (y=fC a b)).length≤k:=by
      have:=Za (fun y=>!decide (y=fC a b)) (n.links.take k);rw[Xp]at this;omega
     have i7:((n.links.take k).filter fun y=>!decide (y=fC a b)).length+1≤100:=by omega
     have dP:=sM (f:=fun y=>!decide (y=fC a b)) hy;replace dP:=Xj dP;replace gS:=Xj gS;generalize (n.links.take k).filter (fun y=>!decide (y=fC a b))=L at*;cases b1:decide (y=fC a b)with
     |true=>
      rw[b1]at dP he;refine am ?_<;>intros;refine hC _ _ _ _ _ ?_ ⟨k+1,g,hlt,rfl,rfl,rfl⟩ (wf (hh:=(by rw[dP.out];simp only[aK,Z0,YB,if_false];rfl)));have:=hm.out;omega
     |false=>
      rw[b1]at dP he;refine am ?_<;>intros;refine hC _ _ _ _ _ ?_ ⟨k+1,g+1,hlt,rfl,rfl,rfl⟩ (wf (hh:=(by rw[dP.out];simp only[aK,Bool.not_false,if_true,Xo,Xm,Xu,←aI];rfl)));have:=hm.out;omega
    ·obtain rfl:k=n.links.length:=by omega
     (try rw[Xt])
     have j5:=hr.out;rw[j5];replace j5:=Xj j5;clear hC;exact aZ;all_goals exact dg
 ·have h1:(cK n !=0)=true:=by simpa using hc
  have hr:R=(Net.zero,cK n):=by rw[hR.out];unfold iC;rw[if_pos hc]
  rw[hr];replace hr:=Xj hr;clear hR;refine pj func80 ntmps80 results80 ?_;refine am ?_<;>intros;exact dg
theorem In (n:Net)(a b:Int)(hz:xE n):af prog 79 [.agg (aK n),.v (.int .i64 a),.v (.int .i64 b)] (.tup [.agg (aK (jb n a b).1),.v (.int .i64 (jb n a b).2)]):=by
 obtain⟨R,hR⟩:∃R,R=jb n a b:=⟨_,rfl⟩;rw[←hR];replace hR:=Xj hR;have bc:=jt n hz;by_cases hc:cK n=0
 ·have bF:=gO.1 hc;have h6:=bF.n6;have Mh:=bF.n12;have rS:R=if dS n a b≠0 then (Net.zero,dS n a b)else ({n with links:=df fF (fC a b) n.links},0):=by rw[hR.out];unfold jb;rw[if_neg (by simpa using hc)]
  rw[hc]at bc;by_cases gE:a=b
  ·have sZ:(a==b)=true:=by simpa using gE
   have hr:R=(Net.zero,3):=by rw[rS,show dS n a b=3 by unfold dS;rw[if_pos gE]];rfl
   rw[hr];clear hr hR rS bF hc;replace gE:=Xj gE;refine pj func79 ntmps79 results79 ?_;refine am ?_<;>intros;all_goals exact dg
  have sZ:(a==b)=false:=by simpa using gE
  have jY:=gJ n a (by omega);have lu:=gJ n b (by omega);rw[jR]at jY lu;have ud:decide ((-1:Int) < 0)=true:=rfl;cases AL:eO n a with
  |none=>
   rw[AL]at jY;simp only at jY;have hr:R=(Net.zero,5):=by rw[rS,show dS n a b=5 by unfold dS;rw[if_neg gE,dY AL];simp];rfl
   rw[hr];clear hr hR rS bF hc AL lu;replace gE:=Xj gE;refine pj func79 ntmps79 results79 ?_;refine am ?_<;>intros;all_goals exact dg
  |some ia=>
  rw[AL]at jY;simp only at jY;obtain⟨va,Pa,O5,O6,ug⟩:=ei AL;have a0f:decide ((ia:Int) < 0)=false:=by simp
  cases nI:eO n b with
  |none=>
   rw[nI]at lu;simp only at lu;have hr:R=(Net.zero,5):=by rw[rS,show dS n a b=5 by unfold dS;rw[if_neg gE,dY nI];simp];rfl
   rw[hr];clear hr hR rS bF hc AL nI Pa O5 ug;replace gE:=Xj gE;refine pj func79 ntmps79 results79 ?_;refine am ?_<;>intros;all_goals exact dg
  |some ib=>
  rw[nI]at lu;simp only at lu;obtain⟨vb,L2,Rq,Tt,xP⟩:=ei nI;have a0g:decide ((ib:Int) < 0)=false:=by simp
  have MU:=sK n a b (by omega);rw[ws]at MU;have Dw:=EY bF a b;have aP:R=if fC a b∈n.links then (Net.zero,6)else if wn n a b=true then (Net.zero,9)else if n.links.length+1>12 then (Net.zero,2)else ({n with links:=df fF (fC a b) n.links},0):=by
   rw[rS];unfold dS;rw[if_neg gE,ug,xP,Dw];simp only[reduceCtorEq,or_self,if_false];split
   ·rfl
   ·cases wn n a b
    ·simp only[Bool.not_false,Bool.true_eq_false,if_false];split<;>rfl
    ·rfl
  clear hR rS Dw;by_cases dB:fC a b∈n.links
  ·have hr:R=(Net.zero,6):=by rw[aP,if_pos dB]
   rw[decide_eq_true dB]at MU;rw[hr];clear hr aP bF hc AL nI Pa O5 ug L2 Rq xP dB;replace gE:=Xj gE;refine pj func79 ntmps79 results79 ?_;refine am ?_<;>intros;all_goals exact dg
  rw[if_neg dB]at aP;rw[decide_eq_false dB]at MU;have RA:∀l∈n.links,l.a∈n.vpcs.map (·.id)∧l.b∈n.vpcs.map (·.id)∧l.a < l.b:=fun l hl=>by
   have:=bF.lk l hl;unfold kT at this;simp only[Xy,decide_eq_true_eq]at this;exact⟨fN this.1,fN this.2.1,this.2.2⟩
  have RU:=wk n a ia AL h6 Mh bF.rise RA;have O4:=wk n b ib nI h6 Mh bF.rise RA;have Vv:=Al n a;have Vw:=Al n b;have MC:∀(k:Nat) (x:Int),(oz n a)[k]? =some x→∃j w,n.vpcs[j]? =some w∧w.id=x∧eO n x=some j∧aW n x=aW n a:=fun k x h=>ES bF.rise h;have MD:∀(k:Nat) (x:Int),(oz n b)[k]? =some x→∃j w,n.vpcs[j]? =some w∧w.id=x∧eO n x=some j∧aW n x=aW n b:=fun k x h=>ES bF.rise h;have ME:∀w∈n.vpcs,aW n w.id=aW n a→w.id∈oz n a:=fun w hw h=>Ak hw h;have MF:∀w∈n.vpcs,aW n w.id=aW n b→w.id∈oz n b:=fun w hw h=>Ak hw h;have gk:=mF n bF.n6 bF.n12 bF.vp;have Pb:∀(i j:Nat) (u v:Vpc),n.vpcs[i]? =some u→n.vpcs[j]? =some v→u.id=v.id→u=v:=fun i j u v hu hv h=>by
   have e1:=oF bF.rise hu;have e2:=oF bF.rise hv;rw[h,e2]at e1;cases e1;rw[hu]at hv;exact XX.inj hv
  have je:∀l∈n.links,1≤l.b∧l.b≤65536:=fun l hl=>bF.bd (bF.ids l hl).2;have DE:1≤(fC a b).b∧(fC a b).b≤65536:=by
   have h1:=bF.bd (fN (n:=n) (x:=a) (by rw[ug];rfl));have h2:=bF.bd (fN (n:=n) (x:=b) (by rw[xP];rfl));rcases sG a b with⟨e,-⟩|⟨e,-⟩
   ·rw[e];exact h2
   ·rw[e];exact h1
  have uh:=bF.lsort;have bB:∀y∈n.links,fF y≠fF (fC a b):=fun y hy e=>dB (by rw[←Cp (je y hy) DE e];exact hy);have TZ:∀(j:Nat) (w:Vpc),n.vpcs[j]? =some w→w.ranges.length≤4:=fun j w hw=>(aY (bF.vp w (Xl hw))).n4;have I9:∀(i j:Nat) (v w:Vpc),n.vpcs[i]? =some v→n.vpcs[j]? =some w→aW n v.id=aW n a→aW n w.id=aW n b→v.id≠w.id→dE v w=true→wn n a b=true:=fun i j v w hv hw h1 h2 h3 h4=>Gm (Xl hv) (Xl hw) h1 h2 h3 h4;clear bF hc AL nI Pa O5 ug L2 Rq xP dB RA;replace aP:=Xj aP;replace MC:=Xj MC;replace MD:=Xj MD;replace ME:=Xj ME;replace MF:=Xj MF;replace je:=Xj je;replace DE:=Xj DE;replace uh:=Xj uh;replace bB:=Xj bB;replace TZ:=Xj TZ;replace I9:=Xj I9;replace Pb:=Xj Pb;replace gE:=Xj gE;obtain⟨GA,Wv⟩:∃GA,GA=oz n a:=⟨_,rfl⟩;obtain⟨GB,Ww⟩:∃GB,GB=oz n b:=⟨_,rfl⟩;rw[←Wv]at RU Vv MC ME;rw[←Ww]at O4 Vw MD MF;clear Wv Ww;refine pj func79 ntmps79 results79 ?_;refine am ?_<;>intros;clear bc jY lu MU RU O4;refine bg ae ak GA (fun i=>∀v∈n.vpcs,∀w∈n.vpcs,v.id∈GA.take i→w.id∈GB→v.id≠w.id→dE v w=false) (fun i=>[(11,.d (.v (.int .i64 i))),(10,.d (.sl 1 (GB.map cD))),(9,.d (.sl 1 (GA.map cD))),(7,.d (.v (.int .i64 0))),(6,.ptr 1 0),(3,.ptr 0 0),(2,.d (.v (.int .i64 b))),(1,.d (.v (.int .i64 a)))]) (fun _=>[.box 28 ((aK n).map .d),.box 28 [.d (.v (.slice none 0 0)),.d (.v (.slice none 0 0))]]) (by simp) (wf) ?_ ?_
  ·intro i x hx hi hI C hC;have MS:(i:Int) < (GA.length:Int):=by omega
   have ux:=wi i (by omega);obtain⟨p,v,hv,Fo,Vx,Ry⟩:=MC.out i x hx;have dP:(∀w∈n.vpcs,w.id∈GB→v.id≠w.id→dE v w=false)→∀v∈n.vpcs,∀w∈n.vpcs,v.id∈GA.take (i+1)→w.id∈GB→v.id≠w.id→dE v w=false:=fun h u hu w hw hug Wx bB=>by
    rw[ag hx]at hug;rcases X2.1 hug with hug|hug
    ·exact hI u hu w hw hug Wx bB
    ·have e1:u.id=x:=Yc.1 hug;obtain⟨q,hq⟩:=Ze.1 hu;have e3:u=v:=Pb.out q p u v hq hv (e1.trans Fo.symm);rw[e3]at bB ⊢;exact h w hw Wx bB
   replace hI:=Xj hI;replace dP:=Xj dP;refine am ?_<;>intros;refine bg ae ak GB (fun j=>∀w∈n.vpcs,w.id∈GB.take j→v.id≠w.id→dE v w=false) (fun j=>[(12,.d (.v (.int .i64 j))),(11,.d (.v (.int .i64 i))),(10,.d (.sl 1 (GB.map cD))),(9,.d (.sl 1 (GA.map cD))),(7,.d (.v (.int .i64 0))),(6,.ptr 1 0),(3,.ptr 0 0),(2,.d (.v (.int .i64 b))),(1,.d (.v (.int .i64 a)))]) (fun _=>[.box 28 ((aK n).map .d),.box 28 [.d (.v (.slice none 0 0)),.d (.v (.slice none 0 0))]]) (by simp) (wf) ?_ ?_
   ·intro j y hy hj hJ C2 jz;have ic:(j:Int) < (GB.length:Int):=by omega
    have j6:=wi j (by omega);obtain⟨q,w,hw,MW,Vy,Vz⟩:=MD.out j y hy;have AO:(x≠y→dE v w=false)→∀w∈n.vpcs,w.id∈GB.take (j+1)→v.id≠w.id→dE v w=false:=fun h u hu hug bB=>by
     rw[ag hy]at hug;rcases X2.1 hug with hug|hug
     ·exact hJ u hu hug bB
     ·have e1:u.id=y:=Yc.1 hug;obtain⟨r,hr⟩:=Ze.1 hu;have e3:u=w:=Pb.out r q u w hr hw (e1.trans MW.symm);rw[e3]at bB ⊢;exact h (by rw[←Fo,←MW];exact bB)
    by_cases GI:x=y
    ·have e1:(x !=y)=false:=by simpa using GI
     have hn:=AO fun h=>absurd GI h;clear AO hJ;replace hn:=Xj hn;replace GI:=Xj GI;replace Fo:=Xj Fo;replace MW:=Xj MW;refine am ?_<;>intros;exact jz _ _ hn.out (wf)
    ·have e1:(x !=y)=true:=by simpa using GI
     have TA:=gJ n x (by omega);have TB:=gJ n y (by omega);rw[jR,Vx]at TA;rw[jR,Vy]at TB;simp only at TA TB;have rR:=TZ.out p v hv;have j5:=TZ.out q w hw;have fS:=CR v w (by omega) (by omega);have Wy:(0:Int)≤(p:Int):=by omega
     have Rz:(0:Int)≤(q:Int):=by omega
     have iG:(p:Int) < (n.vpcs.length:Int):=by have:=(Xn.1 hv).1;omega
     have sS:(q:Int) < (n.vpcs.length:Int):=by have:=(Xn.1 hw).1;omega
     clear rR j5;replace hJ:=Xj hJ;replace Vx:=Xj Vx;replace Vy:=Xj Vy;cases hb:dE v w with
     |true=>
      have hr:R=(Net.zero,9):=by
       rw[aP.out,if_pos (I9.out p q v w hv hw (by rw[Fo];exact Ry) (by rw[MW];exact Vz) (by rw[Fo,MW];exact GI) hb)]
      rw[hb]at fS;rw[hr];clear hr AO hb Ry Vz;replace GI:=Xj GI;replace Fo:=Xj Fo;replace MW:=Xj MW;refine am ?_<;>intros;all_goals exact dg
     |false=>
      have hn:=AO fun _=>hb;rw[hb]at fS;clear AO hb Ry Vz;replace hn:=Xj hn;replace GI:=Xj GI;replace Fo:=Xj Fo;replace MW:=Xj MW;refine am ?_<;>intros;exact jz _ _ hn.out (wf)
   ·intro hJ C2;rw[Xt]at hJ;have hn:=dP.out hJ;replace hJ:=Xj hJ;replace hn:=Xj hn;replace Fo:=Xj Fo;refine am ?_<;>intros;exact hC _ _ hn.out (wf)
  ·intro hI C;rw[Xt]at hI;have TC:wn n a b=false:=by
    cases hw:wn n a b with
    |false=>rfl
    |true=>
     unfold wn at hw;obtain⟨v,hv,h⟩:=XU.1 hw;rw[Xy,beq_iff_eq]at h;obtain⟨h1,h⟩:=h;obtain⟨w,hw,h⟩:=XU.1 h;simp only[Xy,beq_iff_eq,bne_iff_ne,ne_eq]at h;obtain⟨h2,h3,h4⟩:=h;rw[hI v hv w hw (ME.out v hv h1) (MF.out w hw h2) h3]at h4;cases h4
   have fI:R=if n.links.length+1>12 then (Net.zero,2)else ({n with links:=df fF (fC a b) n.links},0):=by rw[aP.out,TC,if_neg (by simp)]
   clear hI TC ME MF MC MD I9;by_cases Pc:n.links.length=12
   ·have hd:decide ((n.links.length:Int)≥12)=true:=by simp;omega
    have hr:R=(Net.zero,2):=by rw[fI,if_pos (by omega)]
    rw[hr];clear hr fI;replace Pc:=Xj Pc;refine am ?_<;>intros;all_goals exact dg
   ·have hd:decide ((n.links.length:Int)≥12)=false:=by simp;omega
    have hr:R=({n with links:=df fF (fC a b) n.links},0):=by rw[fI,if_neg (by omega)]
    have i7:n.links.length+1≤100:=by omega
    have Wz:IntKind.i64.wrap (((n.links.length+1:Nat):Int) - 1)=(n.links.length:Int):=by rw[IntKind.wrap_i64];omega
    clear fI;replace hr:=Xj hr;replace Pc:=Xj Pc;have nm:fC a b=⟨if b < a then b else a,if a < b then b else a⟩:=rfl;have z1z:=Ln.mk (ls:=[]) (gk);refine am ?_<;>intros;clear gk;refine bL ae ak (fun m e h=>∃(q:Nat) (out:List Lnk),Ao fF (fC a b) n.links q out∧out.length=n.links.length+1∧m=q∧e=[(14,.d (.v (.int .i64 q))),(13,.ptr 7 0),(7,.d (.v (.int .i64 0))),(6,.ptr 1 0)]∧
     h=[.box 28 ((aK n).map .d),.box 28 [.d (.v (.slice none 0 0)),.d (.v (.slice none 0 0))],.gone,.gone,.row 76 2 2 (ab (out.map bJ)),.gone,.row 55 3 n.vpcs.length (ab (n.vpcs.map al)),.box 28 [.own 6 n.vpcs.length,.own 4 2]]) _ _ _ ⟨n.links.length,n.links++[fC a b],Lz,by simp,rfl,rfl,rfl⟩ (wf (hh:=(by rw[Xo];rfl)) (hb:=cI) (hbh:=cI)) ?_
    rintro m e h ⟨q,out,tX,nL,hm,rfl,rfl⟩ C2 jz;clear nm;generalize fC a b=LK at*;have sS:=tX.1;have hx:=LB tX;replace tX:=Xj tX;replace hm:=Xj hm;by_cases h0:0 < q
    ·have Rz:decide ((q:Int)>0)=true:=by simp;omega
     obtain⟨y,hy⟩:∃y,n.links[q - 1]? =some y:=⟨_,Xk (by omega)⟩;have MP:=LC tX.out h0 hy;have AB:IntKind.i64.wrap ((q:Int) - 1)=((q - 1:Nat):Int):=by rw[IntKind.wrap_i64];omega
     have po:q < out.length:=by omega
     have WA:q - 1 < out.length:=by omega
     have uw:=Ow (je.out y (Xl hy)) DE.out;have GH:=bB.out y (Xl hy);replace nL:=Xj nL;replace h0:=Xj h0;replace hy:=Xj hy;by_cases hlt:fF y < fF LK
     ·have he:=y7 tX.out uh.out (fun z _ hz=>by
       rw[hy.out]at hz;rw[←XX.inj hz];exact hlt)
      have j5:=hr.out;rw[←he]at j5;rw[j5];have fl:=uw.1 hlt;clear uw GH hlt;replace j5:=Xj j5;replace he:=Xj he;by_cases nm:y.a < LK.a
      ·have e1:decide (y.a < LK.a)=true:=by simpa using nm
       clear fl nm;exact aZ;all_goals exact dg
      ·have e1:decide (y.a < LK.a)=false:=by simpa using nm
       have e2:(y.a==LK.a)=true:=by simp;omega
       have e3:decide (y.b < LK.b)=true:=by simp;omega
       clear fl nm;exact aZ;all_goals exact dg
     ·have fl:¬(y.a < LK.a∨(y.a=LK.a∧y.b < LK.b)):=fun h=>hlt (uw.2 h);have jd:=LD tX.out h0.out hy.out (show fF y>fF LK by omega);clear uw GH hlt;replace jd:=Xj jd;have e1:decide (y.a < LK.a)=false:=by simp;omega
      have Mz:∀X:List PV,((ab (out.map bJ)).set (q - 1) X)[q]? =some [.d (.v (.int .i64 LK.a)),.d (.v (.int .i64 LK.b))]:=fun X=>by
       rw[Z7 (by have:=h0.out;omega),gG,Xz,hx];rfl
      by_cases nm:y.a=LK.a
      ·have e2:(y.a==LK.a)=true:=by simpa using nm
       have e3:decide (y.b < LK.b)=false:=by simp;omega
       clear fl nm;refine am ?_<;>intros;refine jz _ _ _ _ _ ?_ ⟨q - 1,(out.set (q - 1) LK).set q y,jd.out,by rw[YV,YV];exact nL.out,rfl,rfl,rfl⟩ (wf (hh:=(by simp only[List.map_set,ab];rfl)) (hb:=cI) (hbh:=cI));have:=hm.out;have:=h0.out;omega
      ·have e2:(y.a==LK.a)=false:=by simpa using nm
       clear fl nm;refine am ?_<;>intros;refine jz _ _ _ _ _ ?_ ⟨q - 1,(out.set (q - 1) LK).set q y,jd.out,by rw[YV,YV];exact nL.out,rfl,rfl,rfl⟩ (wf (hh:=(by simp only[List.map_set,ab];rfl)) (hb:=cI) (hbh:=cI));have:=hm.out;have:=h0.out;omega
    ·have Rz:decide ((q:Int)>0)=false:=by simp;omega
     have he:=y7 tX.out uh.out (fun z h _=>absurd h h0);have j5:=hr.out;rw[←he]at j5;rw[j5];replace j5:=Xj j5;replace he:=Xj he;replace h0:=Xj h0;replace nL:=Xj nL;exact aZ;all_goals exact dg
 ·have h1:(cK n !=0)=true:=by simpa using hc
  have hr:R=(Net.zero,cK n):=by rw[hR.out];unfold jb;rw[if_pos hc]
  rw[hr];replace hr:=Xj hr;clear hR;refine pj func79 ntmps79 results79 ?_;refine am ?_<;>intros;exact dg
theorem wt {α:Type}{l m:List α}{k:Nat}{x y:α}(hx:l[k]? =some x)(hy:m[k]? =some y)(h:l.take k=m.take k)(e:x=y):l.take (k+1)=m.take (k+1):=by rw[ag hx,ag hy,h,e]
theorem wu {α:Type}{l m:List α}(hl:l.length=m.length)(h:l.take l.length=m.take l.length):l=m:=by
 rw[Xt,hl,Xt]at h;exact h
theorem EZ (v w:Vpc)(AN:v.ranges.length≤1000000000)(SP:v.subs.length≤1000000000)(RM:∀s∈v.subs,s.faces.length≤1000000000∧∀f∈s.faces,f.addrs.length≤1000000000)(lT:∀s∈w.subs,∀f∈s.faces,f.addrs.length≤1000000000):af prog 110 [.agg (al v),.agg (al w)] (.v (.bool (decide (v=w)))):=by
 obtain⟨R,hR⟩:∃R,R=decide (v=w):=⟨_,rfl⟩;rw[←hR];replace hR:=Xj hR;have cf:v≠w→R=false:=fun h=>by rw[hR.out];exact decide_eq_false h
 replace cf:=Xj cf;replace RM:=Xj RM;replace lT:=Xj lT;by_cases c1:v.id=w.id∧v.ranges.length=w.ranges.length∧v.subs.length=w.subs.length
 ·obtain⟨e1,e2,e3⟩:=c1;have d1:(v.id !=w.id)=false:=by simp[e1]
  have d2:((v.ranges.length:Int) !=(w.ranges.length:Int))=false:=by simp[e2]
  have d3:((v.subs.length:Int) !=(w.subs.length:Int))=false:=by simp[e3]
  replace e1:=Xj e1;replace e2:=Xj e2;replace e3:=Xj e3;refine pj func110 ntmps110 results110 ?_;refine am ?_<;>intros;refine bg ae ak v.ranges (fun k=>v.ranges.take k=w.ranges.take k) (fun k=>[(5,.d (.v (.int .i64 k))),(4,.d (.v (.bool false))),(3,.ptr 1 0),(2,.ptr 0 0)]) (fun _=>[.box 55 ((al v).map .d),.box 55 ((al w).map .d)]) rfl (wf) ?_ ?_
  ·intro k x hx hk hI C hC;have dH:(k:Int) < (v.ranges.length:Int):=by omega
   have cM:=wi k (by omega);obtain⟨y,hy⟩:∃y,w.ranges[k]? =some y:=⟨_,Xk (by rw[←e2.out];exact hk)⟩;replace hI:=Xj hI;have he:=vV x y;by_cases h1:x=y
   ·have lS:=Xj (wt hx hy hI.out h1);rw[decide_eq_true h1]at he;replace h1:=Xj h1;have z1z:=@bne.eq_1 (List Int) _;have z2z:=@bne.eq_1 Int _;refine am ?_<;>intros;exact hC _ _ lS.out (wf)
   ·have hb:R=false:=cf.out (fun e=>h1 (by subst e;rw[hx]at hy;exact XX.inj hy));rw[decide_eq_false h1]at he;rw[hb];replace hb:=Xj hb;replace h1:=Xj h1;have z1z:=@bne.eq_1 (List Int) _;have z2z:=@bne.eq_1 Int _;exact aZ;all_goals exact ai.refl _
  ·intro hI C;have ny:=Xj (wu e2.out hI);replace hI:=Xj hI;refine am ?_<;>intros;clear hI;refine bg ae ak v.subs (fun k=>v.subs.take k=w.subs.take k) (fun k=>[(6,.d (.v (.int .i64 k))),(4,.d (.v (.bool false))),(3,.ptr 1 0),(2,.ptr 0 0)]) (fun _=>[.box 55 ((al v).map .d),.box 55 ((al w).map .d)]) rfl (wf) ?_ ?_
   ·intro k x hx hk hI C hC;have dH:(k:Int) < (v.subs.length:Int):=by omega
    have cM:=wi k (by omega);obtain⟨y,hy⟩:∃y,w.subs[k]? =some y:=⟨_,Xk (by rw[←e3.out];exact hk)⟩;have Fa:=RM.out x (Xl hx);have rF:=lT.out y (Xl hy);have a0h:=Fa.1;have VA:=Xj Fa.2;clear Fa;replace rF:=Xj rF;have bH:x≠y→R=false:=fun h=>cf.out (fun e=>h (by subst e;rw[hx]at hy;exact XX.inj hy));replace bH:=Xj bH;replace hI:=Xj hI;have he:=vX x.at_ y.at_;by_cases c2:x.id=y.id∧x.at_=y.at_∧x.faces.length=y.faces.length
    ·obtain⟨f1,f2,f3⟩:=c2;have g1:(x.id==y.id)=true:=by simp[f1]
     have g3:((x.faces.length:Int)==(y.faces.length:Int))=true:=by simp[f3]
     rw[decide_eq_true f2]at he;replace f1:=Xj f1;replace f2:=Xj f2;replace f3:=Xj f3;have z1z:=@bne.eq_1 (List Int) _;have z2z:=@bne.eq_1 Int _;refine am ?_<;>intros;refine bg ae ak x.faces (fun j=>x.faces.take j=y.faces.take j) (fun j=>[(9,.d (.v (.int .i64 j))),(8,.ptr 3 0),(7,.ptr 2 0),(6,.d (.v (.int .i64 k))),(4,.d (.v (.bool false))),(3,.ptr 1 0),(2,.ptr 0 0)]) (fun _=>[.box 55 ((al v).map .d),.box 55 ((al w).map .d),.box 71 ((aU x).map .d),.box 71 ((aU y).map .d)]) rfl (wf) ?_ ?_
     ·intro j f hf hj hJ C2 jz;have ic:(j:Int) < (x.faces.length:Int):=by omega
      have j6:=wi j (by omega);obtain⟨g,hg⟩:∃g,y.faces[j]? =some g:=⟨_,Xk (by rw[←f3.out];exact hj)⟩;have DM:=EC f.addrs g.addrs (VA.out f (Xl hf)) (rF.out g (Xl hg));have xK:f≠g→R=false:=fun h=>bH.out (fun e=>h (by subst e;rw[hf]at hg;exact XX.inj hg));replace xK:=Xj xK;replace hJ:=Xj hJ;by_cases i1:f.id=g.id
      ·have n1:(f.id==g.id)=true:=by simp[i1]
       by_cases i2:f.addrs=g.addrs
       ·rw[decide_eq_true i2]at DM;have VB:f=g:=by cases f;cases g;simp at i1 i2;rw[i1,i2]
        have AO:=Xj (wt hf hg hJ.out VB);replace VB:=Xj VB;replace i1:=Xj i1;replace i2:=Xj i2;have z1z:=@bne.eq_1 (List Int) _;have z2z:=@bne.eq_1 Int _;refine am ?_<;>intros;exact jz _ _ AO.out (wf)
       ·rw[decide_eq_false i2]at DM;have hb:R=false:=xK.out (fun e=>i2 (by rw[e]));rw[hb];replace hb:=Xj hb;replace i1:=Xj i1;replace i2:=Xj i2;have z1z:=@bne.eq_1 (List Int) _;have z2z:=@bne.eq_1 Int _;exact aZ;all_goals exact ai.refl _
      ·have n1:(f.id==g.id)=false:=by simpa using i1
       have hb:R=false:=xK.out (fun e=>i1 (by rw[e]));rw[hb];replace hb:=Xj hb;replace i1:=Xj i1;have z1z:=@bne.eq_1 (List Int) _;have z2z:=@bne.eq_1 Int _;exact aZ;all_goals exact ai.refl _
     ·intro hJ C2;have OV:=wu f3.out hJ;have GI:x=y:=by
       have h1:=f1.out;have h2:=f2.out;cases x;cases y;simp at h1 h2 OV;rw[h1,h2,OV]
      have lS:=Xj (wt hx hy hI.out GI);replace hJ:=Xj hJ;replace OV:=Xj OV;replace GI:=Xj GI;refine am ?_<;>intros;exact hC _ _ lS.out (wf)
    ·have hb:R=false:=bH.out (fun e=>c2 ⟨by rw[e],by rw[e],by rw[e]⟩);rw[hb];replace hb:=Xj hb;rw[Decidable.not_and_iff_or_not,Decidable.not_and_iff_or_not]at c2;rcases c2 with c2|c2|c2
     ·have g1:(x.id==y.id)=false:=by simpa using c2
      replace c2:=Xj c2;have z1z:=@bne.eq_1 (List Int) _;have z2z:=@bne.eq_1 Int _;exact aZ;all_goals exact ai.refl _
     ·rw[decide_eq_false c2]at he;replace c2:=Xj c2;have z1z:=@bne.eq_1 (List Int) _;have z2z:=@bne.eq_1 Int _;exact aZ;all_goals exact ai.refl _
     ·have g3:((x.faces.length:Int)==(y.faces.length:Int))=false:=by simp;omega
      replace c2:=Xj c2;cases hd:decide (x.at_=y.at_);all_goals
       rw[hd]at he;replace hd:=Xj hd;have z1z:=@bne.eq_1 (List Int) _;have z2z:=@bne.eq_1 Int _;exact aZ;all_goals exact ai.refl _
   ·intro hI C;have MN:=wu e3.out hI;have hb:R=true:=by
     rw[hR.out,decide_eq_true_eq];have h1:=e1.out;have h2:=ny.out;cases v;cases w;simp at h1 h2 MN;rw[h1,h2,MN]
    rw[hb];replace hb:=Xj hb;replace hI:=Xj hI;replace MN:=Xj MN;exact aZ;all_goals exact ai.refl _
 ·have hb:R=false:=cf.out (fun e=>c1 ⟨by rw[e],by rw[e],by rw[e]⟩);rw[hb];replace hb:=Xj hb;rw[Decidable.not_and_iff_or_not,Decidable.not_and_iff_or_not]at c1;rcases c1 with c1|c1|c1
  ·have g1:(v.id==w.id)=false:=by simpa using c1
   replace c1:=Xj c1;refine pj func110 ntmps110 results110 ?_;have z1z:=@bne.eq_1 (List Int) _;have z2z:=@bne.eq_1 Int _;exact aZ;all_goals exact ai.refl _
  ·have g1:((v.ranges.length:Int)==(w.ranges.length:Int))=false:=by simp;omega
   replace c1:=Xj c1;refine pj func110 ntmps110 results110 ?_;have z1z:=@bne.eq_1 (List Int) _;have z2z:=@bne.eq_1 Int _;exact aZ;all_goals exact ai.refl _
  ·have g1:((v.subs.length:Int)==(w.subs.length:Int))=false:=by simp;omega
   replace c1:=Xj c1;refine pj func110 ntmps110 results110 ?_;have z1z:=@bne.eq_1 (List Int) _;have z2z:=@bne.eq_1 Int _;exact aZ;all_goals exact ai.refl _
def Ox (s:Sbn):Prop:=s.faces.length≤1000000000∧∀f∈s.faces,f.addrs.length≤1000000000
def Gp (v:Vpc):Prop:=v.ranges.length≤1000000000∧v.subs.length≤1000000000∧∀s∈v.subs,Ox s
def j3 (n:Net):Prop:=n.vpcs.length≤1000000000∧n.links.length≤1000000000∧∀v∈n.vpcs,Gp v
theorem E0 (n:Net)(h:j3 n):af prog 42 [.agg (aK n),.agg (aK n)] (.v (.bool true)):=by
 obtain⟨h1,h2,h3⟩:=h;replace h3:=Xj h3;refine pj func42 ntmps42 results42 ?_;refine am ?_<;>intros;refine bg ae ak n.vpcs (fun _=>True) (fun k=>[(5,.d (.v (.int .i64 k))),(4,.d (.v (.bool false))),(3,.ptr 1 0),(2,.ptr 0 0)]) (fun _=>[.box 28 ((aK n).map .d),.box 28 ((aK n).map .d)]) trivial (wf) ?_ ?_
 ·intro k v hv hk _ C hC;have dH:(k:Int) < (n.vpcs.length:Int):=by omega
  have cM:=wi k (by omega);have hs:=h3.out v (Xl hv);have kq:=EZ v v hs.1 hs.2.1 (fun s kq=>hs.2.2 s kq) (fun s kq=>(hs.2.2 s kq).2);rw[decide_eq_true rfl]at kq;clear hs;refine am ?_<;>intros;exact hC _ _ trivial (wf)
 ·intro _ C;refine am ?_<;>intros;refine bg ae ak n.links (fun _=>True) (fun k=>[(6,.d (.v (.int .i64 k))),(4,.d (.v (.bool false))),(3,.ptr 1 0),(2,.ptr 0 0)]) (fun _=>[.box 28 ((aK n).map .d),.box 28 ((aK n).map .d)]) trivial (wf) ?_ ?_
  ·intro k l hl hk _ C hC;have dH:(k:Int) < (n.links.length:Int):=by omega
   have cM:=wi k (by omega);refine am ?_<;>intros;exact hC _ _ trivial (wf)
  ·intro _ C;exact aZ;all_goals exact ai.refl _
theorem dv:j3 Net.zero:=⟨XD _,XD _,fun v h=>by simp[Net.zero]at h⟩
theorem E1 {v:Vpc}(h:VpcOK v):Gp v:=⟨by have:=h.n4;omega,by have:=h.n6;omega,fun s hs=>⟨by have:=(h.n8 s hs).1;omega,fun f hf=>by have:=(h.n8 s hs).2 f hf;omega⟩⟩
theorem eE {n:Net}(h:NetOK n):j3 n:=⟨by have:=h.n6;omega,by have:=h.n12;omega,fun v hv=>E1 (aY (h.vp v hv))⟩
theorem CZ (n:Net)(id:Int):j3 (iD n id).1:=by
 unfold iD;split
 ·exact dv
 ·rename_i hc;have bF:=gO.1 (by simpa using hc);split
  ·exact dv
  ·obtain⟨a,b,c⟩:=eE bF;refine⟨?_,b,fun v hv=>?_⟩
   ·show (df _ _ n.vpcs).length≤_;rw[fe];have:=bF.n6;omega
   ·rcases mn.1 hv with rfl|hv
    ·exact⟨XD _,XD _,fun s hs=>by simp at hs⟩
    ·exact c v hv
theorem C4 (n:Net)(id:Int)(r:Rng):j3 (gP n id r).1:=by
 unfold gP;split
 ·exact dv
 ·rename_i hc;have bF:=gO.1 (by simpa using hc);split
  ·exact dv
  ·split
   ·exact dv
   ·split
    ·exact dv
    ·rename_i i hi v hv hg;split
     ·rename_i hp;exact eE (gO.1 ((yZ bF hv (by simpa using hg)).1.2 hp))
     ·exact dv
theorem C5 (n:Net)(a b:Int):j3 (jb n a b).1:=by
 unfold jb;split
 ·exact dv
 ·rename_i hc;have bF:=gO.1 (by simpa using hc);split
  ·exact dv
  ·obtain⟨x,y,z⟩:=eE bF;refine⟨x,?_,z⟩;show (df _ _ n.links).length≤_;rw[fe];have:=bF.n12;omega
theorem C6 (n:Net)(a b:Int):j3 (iC n a b).1:=by
 unfold iC;split
 ·exact dv
 ·rename_i hc;have bF:=gO.1 (by simpa using hc);split
  ·exact dv
  ·obtain⟨x,y,z⟩:=eE bF;refine⟨x,?_,z⟩;rename_i i hi;show (n.links.eraseIdx i).length≤_;have:=List.length_eraseIdx_le n.links i;omega
def ko (s:Ste):Prop:=k9 s.book∧j3 s.net
theorem ju {b:Bok}(h:BookOK b):k9 b:=⟨by have:=h.n8;omega,fun p hp=>by have:=h.l32 p hp;omega⟩
theorem ni:ko .zero:=⟨bS,dv⟩
theorem C7 {b:Bok}(h:BookOK b)(vs:List Vpc)(c:Cmd):k9 (mC b vs c).1:=by
 have hb:=ju h;unfold mC;repeat' split
 all_goals first|exact hb|exact CH ..|exact CJ ..|exact Ah ..|exact CK ..|exact tH ..|exact tI ..
theorem E2 {n:Net}(h:NetOK n)(b:Bok)(c:Cmd):j3 (xB b n c).1:=by
 have hn:=eE h;unfold xB;repeat' split
 all_goals first|exact hn|exact CZ ..|exact C5 ..|exact C6 ..
theorem jv {n:Net}(h:NetOK n){v:Vpc}(hv:ng v)(k:Nat):j3 {n with vpcs:=n.vpcs.set k v}:=by
 obtain⟨a,b,c⟩:=eE h;refine⟨by show (n.vpcs.set k v).length≤_;rw[YV];exact a,b,fun w hw=>?_⟩;rcases Y4 hw with hw|rfl
 ·exact c w hw
 ·exact hv
theorem Aq {b:Bok}{n:Net}(hb:BookOK b)(hn:NetOK n)(c:Cmd)(k:Nat)(v:Vpc):k9 (lO b n c k v).1∧j3 (lO b n c k v).2.1:=by
 have h1:=ju hb;have h2:=eE hn;unfold lO;repeat' split
 all_goals refine⟨?_,?_⟩
 all_goals first|exact h1|exact h2|exact tH ..|exact tI ..|exact C4 ..|exact jv hn (CM ..) _|exact jv hn (EO ..) _|exact jv hn (Ai ..) _|exact jv hn (CP ..) _|exact jv hn (CQ ..) _|exact jv hn (xD ..) _
theorem Ar {b:Bok}{n:Net}(hb:BookOK b)(hn:NetOK n)(c:Cmd):k9 (jr b n c).1∧j3 (jr b n c).2.1:=by
 unfold jr;split
 ·exact⟨ju hb,eE hn⟩
 ·split
  ·exact Aq hb hn ..
  ·exact⟨ju hb,eE hn⟩
theorem Io (s:Ste)(c:Cmd):ko (Ag s c).1:=by
 unfold Ag;by_cases h:iA s=0
 ·obtain⟨xG,pb⟩:=wb h;have hb:=dF xG;have hn:=gO.1 pb;rw[if_neg (by simpa using h)];split
  ·exact⟨ju hb,eE hn⟩
  ·unfold Af;split
   ·exact⟨C7 hb ..,eE hn⟩
   ·split
    ·exact⟨ju hb,E2 hn ..⟩
    ·split
     ·exact Ar hb hn c
     ·exact⟨ju hb,eE hn⟩
 ·rw[if_pos h];exact ni
theorem ko.hz {s:Ste}(h:ko s):∀p∈s.book.pools,p.leases.length≤3518437208882:=fun p hp=>by have:=h.1.2 p hp;omega
theorem ko.nz {s:Ste}(h:ko s):xE s.net:=fun v hv=>⟨by have:=(h.2.2.2 v hv).2.1;omega,fun x hx=>by have:=((h.2.2.2 v hv).2.2 x hx).1;omega⟩
def jT (s:Ste)(l:List Cmd):Ste:=l.foldl (fun s c=>(Ag s c).1) s
def lI:Ste→List Cmd→List Ans
 |_,[]=>[]
 |s,c::l=>(Ag s c).2.1::lI (Ag s c).1 l
def lJ (l:List Cmd):Ste × List Ans × Int:=if 200 < l.length then (.zero,[],2)else (jT .zero l,lI .zero l,0)
theorem wv (s:Ste)(l:List Cmd)(c:Cmd):jT s (l++[c])=(Ag (jT s l) c).1:=by
 unfold jT;rw[Zn];rfl
theorem ww:∀(l:List Cmd) (s:Ste) (c:Cmd),lI s (l++[c])=lI s l++[(Ag (jT s l) c).2.1]
 |[],_,_=>rfl
 |d::l,s,c=>by
  show _::lI _ (l++[c])=_;rw[ww l];rfl
theorem o6:∀(l:List Cmd) (s:Ste),(lI s l).length=l.length
 |[],_=>rfl
 |_::l,s=>by show (lI _ l).length+1=_;rw[o6 l];rfl
theorem oG (l:List Cmd):ko (jT .zero l):=by
 rcases List.eq_nil_or_concat l with rfl|⟨l,c,rfl⟩
 ·exact ni
 ·rw[List.concat_eq_append,wv];exact Io ..
theorem C8 (l:List Cmd):ko (lJ l).1:=by
 unfold lJ;split
 ·exact ni
 ·exact oG l
abbrev Ip:=List Int × Int
theorem Gq:∀{m:List Ip}{k:List Int}{v:Int},(∀x∈m,x.1≠k)→l7 m k v=m++[(k,v)]
 |[],k,v,_=>rfl
 |(k',x)::m,k,v,h=>by
  unfold l7;rw[if_neg (h _ (F' ..)),Gq fun y hy=>h y (Zc _ hy)];rfl
def Sp (m:List Ip)(x:Ip):List Ip:=l7 m x.1 x.2
theorem Gr:∀(l m:List Ip),(m++l).Pairwise (fun a b=>a.1≠b.1)→l.foldl Sp m=m++l
 |[],m,_=>by simp
 |x::l,m,h=>by
  rw[YO];have h1:=(YT.1 h).2.2;have e:Sp m x=m++[x]:=Gq fun y hy=>h1 y hy x (F' ..);rw[e,Gr l (m++[x]) (by simpa using h)];simp
def E3 (p:Pol):List Ip:=(p.leases.filter fun l=>l.kind==1).map fun l=>([l.at_.at_,l.at_.len,p.id],l.owner)
def rt (b:Bok):List Ip:=b.pools.flatMap E3
theorem LG (p:Pol)(m:List Ip):Kl m p=(E3 p).foldl Sp m:=by
 unfold Kl E3;generalize p.leases=l;induction l generalizing m with
 |nil=>rfl
 |cons a l ih=>
  rw[YO,ih];unfold IY;by_cases h:a.kind=1
  ·rw[if_pos h,List.filter_cons_of_pos (by simpa using h)];rfl
  ·rw[if_neg h,List.filter_cons_of_neg (by simpa using h)]
theorem LH (b:Bok):t9 b=(rt b).foldl Sp []:=by
 unfold t9 rt;have key:∀(l:List Pol) (m:List Ip),l.foldl Kl m=(l.flatMap E3).foldl Sp m:=by
  intro l;induction l with
  |nil=>intro m;rfl
  |cons p l ih=>intro m;rw[YO,ih,List.flatMap_cons,Zn,LG]
 exact key _ _
theorem jx {b:Bok}(h:BookOK b):(rt b).Pairwise fun x y=>x.1≠y.1:=by
 unfold rt;rw[List.pairwise_flatMap];constructor
 ·intro p hp;have hl:=kZ (h.mem p hp).2.1;unfold E3;rw[Y3];exact(hl.filter _).imp fun {a b} gE e=>by simp at e;omega
 ·refine h.rise.imp fun {p q} hpq x hx y hy e=>?_;unfold E3 at hx hy;obtain⟨l,-,rfl⟩:=XQ.1 hx;obtain⟨l',-,rfl⟩:=XQ.1 hy;simp at e;omega
theorem As {b:Bok}(h:BookOK b):t9 b=rt b:=by
 rw[LH,Gr _ [] (by simpa using jx h)];rfl
theorem o7:∀{l:List Ip},l.Pairwise (fun x y=>x.1≠y.1)→∀{k:List Int}{o:Int},kz l k=some o↔(k,o)∈l
 |[],_,k,o=>by simp[kz]
 |(k',x)::l,h,k,o=>by
  have h':=YC.1 h;unfold kz;by_cases e:k'=k
  ·subst e;rw[if_pos rfl];constructor
   ·intro hx;cases hx;exact F' ..
   ·intro hx;rcases X7.1 hx with hx|hx
    ·cases hx;rfl
    ·exact absurd rfl (h'.1 (k',o) hx)
  ·rw[if_neg e,o7 h'.2];constructor
   ·exact fun hx=>Zc _ hx
   ·intro hx;rcases X7.1 hx with hx|hx
    ·cases hx;exact absurd rfl e
    ·exact hx
theorem qg {b:Bok}{k:List Int}{o:Int}:(k,o)∈rt b↔∃p∈b.pools,∃l∈p.leases,l.kind=1∧k=[l.at_.at_,l.at_.len,p.id]∧o=l.owner:=by
 unfold rt E3;simp only[ZY,XQ,Zt,Prod.mk.injEq,beq_iff_eq];constructor
 ·rintro⟨p,hp,l,⟨hl,hk⟩,rfl,rfl⟩;exact⟨p,hp,l,hl,hk,rfl,rfl⟩
 ·rintro⟨p,hp,l,hl,hk,rfl,rfl⟩;exact⟨p,hp,l,⟨hl,hk⟩,rfl,rfl⟩
theorem LI {α:Type}[DecidableEq α]{l m:List α}(hl:l.Nodup)(hm:m.Nodup)(hs:∀x∈l,x∈m):l.length≤m.length∧(l.length=m.length↔∀x∈m,x∈l):=by
 have h1:=hl.length_le_of_subset hs;refine⟨h1,fun h x hx=>?_,fun h=>Nat.le_antisymm h1 (hm.length_le_of_subset h)⟩;refine Classical.byContradiction fun hn=>?_;have h2:(x::l).Nodup:=List.nodup_cons.2 ⟨hn,hl⟩;have h3:=h2.length_le_of_subset (fun y hy=>by
  rcases X7.1 hy with rfl|hy
  ·exact hx
  ·exact hs y hy:(x::l) ⊆ m)
 simp at h3;omega
def wx (vs:List Vpc):List (List Int):=vs.flatMap fun v=>v.ranges.map fun r=>[r.at_.at_,r.at_.len,r.pool]
theorem Iq (vs:List Vpc):(wx vs).length=ol vs:=by
 unfold wx ol;rw[List.length_flatMap];simp
theorem wy {E:List Ip}{id:Int}{r:Rng}(hid:id≠0):zU E id r=true↔kz E [r.at_.at_,r.at_.len,r.pool]=some id:=by
 unfold zU;cases h:kz E [r.at_.at_,r.at_.len,r.pool]with
 |none=>simp;omega
 |some x=>simp
theorem C9 {E:List Ip}{vs:List Vpc}(hr:vs.Pairwise fun a b=>a.id < b.id)(hv:∀v∈vs,v.id≠0∧v.ranges.Pairwise fun a b=>a.at_.at_ < b.at_.at_)(bF:kR E vs=true):(wx vs).Nodup:=by
 unfold wx List.Nodup;rw[List.pairwise_flatMap];have i4:∀v∈vs,∀r∈v.ranges,kz E [r.at_.at_,r.at_.len,r.pool]=some v.id:=fun v rL r uy=>
  (wy (hv v rL).1).1 (XE.1 (XE.1 bF v rL) r uy)
 constructor
 ·intro v rL;rw[Y3];exact(hv v rL).2.imp fun {a b} gE e=>by simp at e;omega
 ·rw[XF]at hr ⊢;intro i j hi hj hij x hx y hy e;obtain⟨r,uy,rfl⟩:=XQ.1 hx;obtain⟨r',VC,rfl⟩:=XQ.1 hy;have h1:=i4 _ (Ym hi) r uy;have h2:=i4 _ (Ym hj) r' VC;rw[e,h2]at h1;have:=hr i j hi hj hij;simp at h1;omega
theorem Ir {E:List Ip}{vs:List Vpc}(hE:E.Pairwise fun x y=>x.1≠y.1)(hr:vs.Pairwise fun a b=>a.id < b.id)(hv:∀v∈vs,v.id≠0∧v.ranges.Pairwise fun a b=>a.at_.at_ < b.at_.at_)(bF:kR E vs=true):
 ol vs=(E.countP fun kv=>gz vs kv.2)↔∀kv∈E,gz vs kv.2=true→kv.1∈wx vs:=by
 have hA:=C9 hr hv bF;have hB:((E.filter fun kv=>gz vs kv.2).map (·.1)).Nodup:=by
  unfold List.Nodup;rw[Y3];exact(hE.filter _)
 have hs:∀x∈wx vs,x∈(E.filter fun kv=>gz vs kv.2).map (·.1):=by
  intro x hx;obtain⟨v,rL,hx⟩:=ZY.1 hx;obtain⟨r,uy,rfl⟩:=XQ.1 hx;have h1:=(wy (hv v rL).1).1 (XE.1 (XE.1 bF v rL) r uy);have h2:=(o7 hE).1 h1;exact XQ.2 ⟨_,Zt.2 ⟨h2,XU.2 ⟨v,rL,by simp⟩⟩,rfl⟩
 have h:=(LI hA hB hs).2;rw[Iq,XC,←List.countP_eq_length_filter]at h;rw[h];constructor
 ·intro h kv Gz hh;exact h _ (XQ.2 ⟨kv,Zt.2 ⟨Gz,hh⟩,rfl⟩)
 ·intro h x hx;obtain⟨kv,Gz,rfl⟩:=XQ.1 hx;obtain⟨h1,h2⟩:=Zt.1 Gz;exact h kv h1 h2
theorem Is {b:Bok}(h:BookOK b){p q:Pol}(hp:p∈b.pools)(hq:q∈b.pools)(e:p.id=q.id):p=q:=by
 obtain⟨i,hi,rfl⟩:=Yb hp;obtain⟨j,hj,rfl⟩:=Yb hq;have hr:=XF.1 h.rise;rcases Zb i j with h1|h1|h1
 ·have:=hr i j hi hj h1;omega
 ·subst h1;rfl
 ·have:=hr j i hj hi h1;omega
theorem LJ {b:Bok}(h:BookOK b)(pid:Int)(at_:Pfx):kz (t9 b) [at_.at_,at_.len,pid]=(gC b pid at_).map (·.owner):=by
 rw[As h];unfold gC bK;cases hf:b.pools.find? fun p=>p.id==pid with
 |none=>
  simp only[Zg];cases hk:kz (rt b) [at_.at_,at_.len,pid]with
  |none=>rfl
  |some o=>
   obtain⟨p,hp,l,hl,pc,he,-⟩:=qg.1 ((o7 (jx h)).1 hk);have:=Yq.1 hf p hp;simp at he this;omega
 |some p=>
  have oL:=YF hf;have wR:p.id=pid:=by have:=Zh hf;simpa using this
  simp only;cases hl:p.leases.find? (i9 at_)with
  |none=>
   simp only[Zg];cases hk:kz (rt b) [at_.at_,at_.len,pid]with
   |none=>rfl
   |some o=>
    obtain⟨q,hq,l,lR,pc,he,-⟩:=qg.1 ((o7 (jx h)).1 hk);simp at he;obtain rfl:=Is h oL hq (by omega);have:=Yq.1 hl l lR;unfold i9 at this;exfalso;apply this;have:l.at_=at_:=by
     have h1:=he.1;have h2:=he.2.1;cases nm:l.at_ with
     |mk x y=>
      cases at_ with
      |mk x' y'=>rw[nm]at h1 h2;simp only at h1 h2;rw[h1,h2]
    simp[pc,this]
  |some l=>
   simp only[Ye];have lR:=YF hl;have hg:=Zh hl;unfold i9 at hg;rw[Xy]at hg;have g1:l.kind=1:=by simpa using hg.1
   have g2:l.at_=at_:=of_decide_eq_true hg.2;rw[o7 (jx h)];exact qg.2 ⟨p,oL,l,lR,g1,by rw[g2,wR],rfl⟩
def IZ (b:Bok)(id:Int)(r:Rng):Bool:=match gC b r.pool r.at_ with|some l=>l.owner==id|none=>false
def Iu (vs:List Vpc)(pid:Int)(l:Lse):Bool:=!(l.kind==1)||(match vs.find? (·.id==l.owner)with|some v=>v.ranges.any fun r=>decide (r=(⟨l.at_,pid⟩:Rng))|none=>true)
def LL (s:Ste):Bool:=s.net.vpcs.all fun v=>v.ranges.all (IZ s.book v.id)
def E4 (s:Ste):Bool:=s.book.pools.all fun p=>p.leases.all (Iu s.net.vpcs p.id)
theorem Oy {s:Ste}(h:BookOK s.book)(hv:∀v∈s.net.vpcs,v.id≠0):kR (t9 s.book) s.net.vpcs=LL s:=by
 unfold kR LL;have key:∀v∈s.net.vpcs,∀r∈v.ranges,zU (t9 s.book) v.id r=IZ s.book v.id r:=by
  intro v rL r _;unfold zU IZ;rw[LJ h];cases gC s.book r.pool r.at_ with
  |none=>have:=hv v rL;simp;omega
  |some l=>simp
 rw[Yi,XE,XE];refine forall_congr' fun v=>forall_congr' fun rL=>?_;rw[XE,XE];exact forall_congr' fun r=>forall_congr' fun uy=>by rw[key v rL r uy]
theorem LM {vs:List Vpc}(hr:vs.Pairwise fun a b=>a.id < b.id){v w:Vpc}(hv:v∈vs)(hw:w∈vs)(e:v.id=w.id):v=w:=by
 obtain⟨i,hi,rfl⟩:=Yb hv;obtain⟨j,hj,rfl⟩:=Yb hw;have hr:=XF.1 hr;rcases Zb i j with h1|h1|h1
 ·have:=hr i j hi hj h1;omega
 ·subst h1;rfl
 ·have:=hr j i hj hi h1;omega
theorem Oz {s:Ste}(h:BookOK s.book)(hr:s.net.vpcs.Pairwise fun a b=>a.id < b.id)(hv:∀v∈s.net.vpcs,v.id≠0)(bF:kR (t9 s.book) s.net.vpcs=true):
 (∀kv∈t9 s.book,gz s.net.vpcs kv.2=true→kv.1∈wx s.net.vpcs)↔E4 s=true:=by
 rw[As h]at bF ⊢;unfold E4;simp only[XE];constructor
 ·intro hk p hp l hl;unfold Iu;by_cases pc:l.kind=1
  ·have hm:=qg.2 ⟨p,hp,l,hl,pc,rfl,rfl⟩;cases hf:s.net.vpcs.find? (·.id==l.owner)with
   |none=>simp
   |some v=>
    have rL:=YF hf;have Ty:v.id=l.owner:=by have:=Zh hf;simpa using this
    have hka:=hk _ hm (XU.2 ⟨v,rL,by simpa using Ty⟩);obtain⟨w,AB,hx⟩:=ZY.1 hka;obtain⟨r,uy,he⟩:=XQ.1 hx;have h1:=(wy (hv w AB)).1 (XE.1 (XE.1 bF w AB) r uy);have h2:=(o7 (jx h)).2 hm;simp only at he;rw[he,h2]at h1;have hwv:w=v:=LM hr AB rL (by simp at h1;omega);subst hwv;have:r=⟨l.at_,p.id⟩:=by
     cases r with
     |mk a pl=>
      cases a;cases nm:l.at_;simp_all
    simp only[pc,beq_self_eq_true,Z0,ZT];exact XU.2 ⟨r,uy,by simpa using this⟩
  ·simp[pc]
 ·rintro hk ⟨k,o⟩ Gz hh;obtain⟨p,hp,l,hl,pc,rfl,rfl⟩:=qg.1 Gz;have h1:=hk p hp l hl;unfold Iu at h1;simp only[pc,beq_self_eq_true,Z0,ZT]at h1;obtain⟨v,rL,Ty⟩:=XU.1 hh;cases hf:s.net.vpcs.find? (·.id==l.owner)with
  |none=>exact absurd Ty (by simpa using Yq.1 hf v rL)
  |some w=>
   rw[hf]at h1;obtain⟨r,uy,he⟩:=XU.1 h1;have he:r=⟨l.at_,p.id⟩:=by simpa using he
   exact ZY.2 ⟨w,YF hf,XQ.2 ⟨r,uy,by rw[he]⟩⟩
theorem Iv (s:Ste):iA s=if a9 s.book≠0 then a9 s.book else if cK s.net≠0 then cK s.net else if (LL s&&E4 s)=true then 0 else 1:=by
 unfold iA;by_cases h1:a9 s.book=0
 ·have n1:¬a9 s.book≠0:=fun h=>h h1;by_cases h2:cK s.net=0
  ·have n2:¬cK s.net≠0:=fun h=>h h2;rw[if_neg n1,if_neg n1,if_neg n2,if_neg n2];have hb:=dF h1;have hn:=gO.1 h2;have hv:∀v∈s.net.vpcs,v.id≠0:=fun v rL e=>by
    have:=(aY (hn.vp v rL)).id;unfold cF at this;rw[e]at this;simp at this
   have SP:∀v∈s.net.vpcs,v.id≠0∧v.ranges.Pairwise fun a b=>a.at_.at_ < b.at_.at_:=fun v rL=>⟨hv v rL,(aY (hn.vp v rL)).rr⟩;rw[←Oy hb hv];cases bF:kR (t9 s.book) s.net.vpcs with
   |false=>simp
   |true=>
    have hc:=Ir (E:=t9 s.book) (by rw[As hb];exact jx hb) hn.rise SP bF;rw[Oz hb hn.rise hv bF]at hc;simp only[Yr,decide_eq_true_eq];by_cases h3:E4 s=true
    ·rw[if_pos (hc.2 h3),if_pos h3]
    ·rw[if_neg (fun e=>h3 (hc.1 e)),if_neg h3]
  ·rw[if_neg n1,if_neg n1,if_pos h2,if_pos h2]
 ·rw[if_pos h1,if_pos h1]
theorem ru {α:Type}{p:α→Bool}{l:List α}{k:Nat}{x:α}(hx:l[k]? =some x)(h:(l.take k).any p=false)(hp:p x=false):(l.take (k+1)).any p=false:=by
 rw[ag hx,List.any_append,h];simpa using hp
theorem uu {α:Type}{p:α→Bool}{l:List α}{k:Nat}{x:α}(hx:l[k]? =some x)(hp:p x=true):l.any p=true:=XU.2 ⟨x,Xl hx,hp⟩
theorem wA (v:Vpc)(r:Rng)(hl:v.ranges.length≤1000000000):af prog 40 [.agg (al v),.agg (bv r)] (.v (.bool (v.ranges.any fun x=>decide (x=r)))):=by
 obtain⟨R,hR⟩:∃R,R=v.ranges.any fun x=>decide (x=r):=⟨_,rfl⟩;rw[←hR];replace hR:=Xj hR;refine pj func40 ntmps40 results40 ?_;refine am ?_;refine bg ae ak v.ranges (fun k=>((v.ranges.take k).any fun x=>decide (x=r))=false) (fun k=>[(5,.d (.v (.int .i64 k))),(4,.d (.v (.bool false))),(3,.ptr 1 0),(2,.ptr 0 0)]) (fun _=>[.box 55 ((al v).map .d),.box 58 ((bv r).map .d)]) rfl wf ?_ ?_
 ·intro k x hx hk hI C hC;have dH:(k:Int) < (v.ranges.length:Int):=by omega
  have cM:=wi k (by omega);have he:=vV x r;replace hI:=Xj hI;cases hp:decide (x=r)with
  |true=>
   rw[hp]at he;have hr:R=true:=by rw[hR.out];exact uu hx hp
   rw[hr];replace hp:=Xj hp;exact aZ
  |false=>
   rw[hp]at he;have lS:=Xj (ru hx hI.out hp);replace hp:=Xj hp;refine am ?_;exact hC _ _ lS.out wf
 ·intro hI C;rw[Xt]at hI;have hr:R=false:=by rw[hR.out,hI]
  rw[hr];replace hI:=Xj hI;exact aZ
theorem Iw (n:Net)(r:Rng)(hl:n.vpcs.length≤1000000000)(hv:∀v∈n.vpcs,v.ranges.length≤1000000000):af prog 164 [.agg (aK n),.agg (bv r)] (.v (.bool (n.vpcs.any fun v=>v.ranges.any fun x=>decide (x=r)))):=by
 obtain⟨R,hR⟩:∃R,R=n.vpcs.any fun v=>v.ranges.any fun x=>decide (x=r):=⟨_,rfl⟩;rw[←hR];replace hR:=Xj hR;replace hv:=Xj hv;refine pj func164 ntmps164 results164 ?_;refine am ?_;refine bg ae ak n.vpcs (fun k=>((n.vpcs.take k).any fun v=>v.ranges.any fun x=>decide (x=r))=false) (fun k=>[(5,.d (.v (.int .i64 k))),(4,.d (.v (.bool false))),(3,.ptr 1 0),(2,.ptr 0 0)]) (fun _=>[.box 28 ((aK n).map .d),.box 58 ((bv r).map .d)]) rfl wf ?_ ?_
 ·intro k v hx hk hI C hC;have dH:(k:Int) < (n.vpcs.length:Int):=by omega
  have cM:=wi k (by omega);have hh:=wA v r (hv.out v (Xl hx));replace hI:=Xj hI;cases hp:v.ranges.any fun x=>decide (x=r)with
  |true=>
   rw[hp]at hh;have hr:R=true:=by rw[hR.out];exact uu hx hp
   rw[hr];replace hp:=Xj hp;exact aZ
  |false=>
   rw[hp]at hh;have lS:=Xj (ru hx hI.out hp);replace hp:=Xj hp;refine am ?_;exact hC _ _ lS.out wf
 ·intro hI C;rw[Xt]at hI;have hr:R=false:=by rw[hR.out,hI]
  rw[hr];replace hI:=Xj hI;exact aZ
def wB (b:Bok)(id:Int):Bool:=b.pools.any fun p=>p.leases.any fun l=>l.kind==1&&l.owner==id
theorem OA (b:Bok)(id:Int)(hl:b.pools.length≤1000000000)(hv:∀p∈b.pools,p.leases.length≤1000000000):af prog 77 [.agg (aS b),.v (.int .i64 id)] (.v (.bool (wB b id))):=by
 unfold wB;obtain⟨R,hR⟩:∃R,R=b.pools.any fun p=>p.leases.any fun l=>l.kind==1&&l.owner==id:=⟨_,rfl⟩;rw[←hR];replace hR:=Xj hR;replace hv:=Xj hv;refine pj func77 ntmps77 results77 ?_;refine am ?_;refine bg ae ak b.pools (fun k=>((b.pools.take k).any fun p=>p.leases.any fun l=>l.kind==1&&l.owner==id)=false) (fun k=>[(5,.d (.v (.int .i64 k))),(4,.d (.v (.bool false))),(2,.ptr 0 0),(1,.d (.v (.int .i64 id)))]) (fun _=>[.box 24 ((aS b).map .d)]) rfl wf ?_ ?_
 ·intro k p hx hk hI C hC;have dH:(k:Int) < (b.pools.length:Int):=by omega
  have cM:=wi k (by omega);have iG:=hv.out p (Xl hx);replace hI:=Xj hI;refine am ?_;refine bg ae ak p.leases (fun j=>((p.leases.take j).any fun l=>l.kind==1&&l.owner==id)=false) (fun j=>[(6,.d (.v (.int .i64 j))),(5,.d (.v (.int .i64 k))),(4,.d (.v (.bool false))),(2,.ptr 0 0),(1,.d (.v (.int .i64 id)))]) (fun _=>[.box 24 ((aS b).map .d)]) rfl wf ?_ ?_
  ·intro j l hy hj hJ C2 jz;have ic:(j:Int) < (p.leases.length:Int):=by omega
   have j6:=wi j (by omega);replace hJ:=Xj hJ;cases hp:(l.kind==1&&l.owner==id)with
   |true=>
    have hr:R=true:=by rw[hR.out];exact uu hx (uu hy hp)
    rw[hr];rw[Xy]at hp;obtain⟨p1,p2⟩:=hp;exact aZ
   |false=>
    have AO:=Xj (ru hy hJ.out hp);cases p1:l.kind==1 with
    |false=>
     replace hp:=Xj hp;refine am ?_;exact jz _ _ AO.out wf
    |true=>
     rw[p1,Yr]at hp;refine am ?_;exact jz _ _ AO.out wf
  ·intro hJ C2;rw[Xt]at hJ;have lS:=Xj (ru hx hI.out hJ);replace hJ:=Xj hJ;refine am ?_;exact hC _ _ lS.out wf
 ·intro hI C;rw[Xt]at hI;have hr:R=false:=by rw[hR.out,hI]
  rw[hr];replace hI:=Xj hI;exact aZ
theorem LN {α:Type}(p:α→Bool)(l:List α):(cv p l < 0∧l.find? p=none)∨∃(k:Nat) (x:α),cv p l=k∧l[k]? =some x∧l.find? p=some x:=by
 unfold cv;cases h:l.findIdx? p with
 |none=>
  left;exact⟨by simp,Yq.2 fun x hx=>by simpa using Yn.1 h x hx⟩
 |some k=>
  right;obtain⟨hk,h1,h2⟩:=XH.1 h;refine⟨k,_,rfl,Xk hk,?_⟩;rw[List.find?_eq_some_iff_getElem];exact⟨h1,k,hk,rfl,fun j hj=>by simpa using h2 j hj⟩
theorem Da (s:Ste)(hz:∀p∈s.book.pools,p.leases.length≤3518437208882)(pq:xE s.net):af prog 12 [.agg (eW s)] (.v (.int .i64 (iA s))):=by
 have hb:=gB s.book hz;have hn:=jt s.net pq;rw[Iv];by_cases h1:a9 s.book=0
 ·rw[if_neg (by simpa using h1)];rw[h1]at hb;by_cases h2:cK s.net=0
  ·rw[if_neg (by simpa using h2)];rw[h2]at hn;have zk:=dF h1;have cf:=gO.1 h2;have h8:=zk.n8;have fu:=Xj zk.l32;have n6:=cf.n6;have Rn:∀v∈s.net.vpcs,v.ranges.length≤4:=fun v hv=>(aY (cf.vp v hv)).n4;replace Rn:=Xj Rn;obtain⟨R,hR⟩:∃R,R=if (LL s&&E4 s)=true then (0:Int)else 1:=⟨_,rfl⟩;rw[←hR];replace hR:=Xj hR;clear h1 h2 zk cf hz pq;refine pj func12 ntmps12 results12 ?_;refine am ?_;refine bg ae ak s.net.vpcs (fun k=>((s.net.vpcs.take k).all fun v=>v.ranges.all (IZ s.book v.id))=true) (fun k=>[(5,.d (.v (.int .i64 k))),(2,.d (.v (.int .i64 0))),(1,.ptr 0 0)]) (fun _=>[.box 30 ((eW s).map .d)]) rfl wf ?_ ?_
   ·intro k v hx hk hI C hC;have dH:(k:Int) < (s.net.vpcs.length:Int):=by omega
    have cM:=wi k (by omega);have h4:=Xj (Rn.out v (Xl hx));have lL:=Xj hx;replace hI:=Xj hI;refine am ?_;clear hx;refine bg ae ak v.ranges (fun j=>((v.ranges.take j).all (IZ s.book v.id))=true) (fun j=>[(7,.d (.v (.int .i64 j))),(6,.ptr 1 0),(5,.d (.v (.int .i64 k))),(2,.d (.v (.int .i64 0))),(1,.ptr 0 0)]) (fun _=>[.box 30 ((eW s).map .d),.box 55 ((al v).map .d)]) rfl wf ?_ ?_
    ·intro j r hy hj hJ C2 jz;have ic:(j:Int) < (v.ranges.length:Int):=by omega
     have j6:IntKind.i64.wrap ((j:Int)+1)=((j+1:Nat):Int):=by have:=h4.out;rw[IntKind.wrap_i64];omega
     have nm:=yS s.book r.pool r.at_ (by omega) (fun q hq=>by have:=fu.out q hq;omega);have MP:=Xj hy;replace hJ:=Xj hJ;have bH:IZ s.book v.id r=false→R=1:=fun e=>by
      rw[hR.out,if_neg];intro h;rw[Xy]at h;have:=XE.1 (XE.1 h.1 v (Xl lL.out)) r (Xl MP.out);rw[e]at this;cases this
     have gQ:IZ s.book v.id r=true→((v.ranges.take (j+1)).all (IZ s.book v.id))=true:=fun e=>by
      rw[ag MP.out,ZO,hJ.out];simpa using e
     cases sV:gC s.book r.pool r.at_ with
     |none=>
      rw[sV]at nm;have hr:=bH (by unfold IZ;rw[sV]);rw[hr];clear bH gQ hr;simp only[oB]at nm;replace sV:=Xj sV;exact aZ
     |some l=>
      rw[sV]at nm;simp only[oB]at nm;cases ho:l.owner==v.id with
      |false=>
       have hr:=bH (by unfold IZ;rw[sV];exact ho);rw[hr];have e1:(l.owner !=v.id)=true:=by simpa using ho
       clear bH gQ hr;replace sV:=Xj sV;exact aZ
      |true=>
       have hg:=Xj (gQ (by unfold IZ;rw[sV];exact ho));have e1:(l.owner !=v.id)=false:=by simpa using ho
       clear bH gQ;replace sV:=Xj sV;refine am ?_;exact jz _ _ hg.out wf
    ·intro hJ C2;rw[Xt]at hJ;have lS:((s.net.vpcs.take (k+1)).all fun v=>v.ranges.all (IZ s.book v.id))=true:=by
      rw[ag lL.out,ZO,hI.out];simpa using hJ
     replace lS:=Xj lS;replace hJ:=Xj hJ;refine am ?_;exact hC _ _ lS.out wf
   ·intro hI C;rw[Xt]at hI;have hA:LL s=true:=hI;have aP:R=if E4 s=true then 0 else 1:=by rw[hR.out,hA,Yr]
    replace hI:=Xj hI;replace aP:=Xj aP;replace hA:=Xj hA;refine am ?_;refine bg ae ak s.book.pools (fun k=>((s.book.pools.take k).all fun p=>p.leases.all (Iu s.net.vpcs p.id))=true) (fun k=>[(10,.d (.v (.int .i64 k))),(2,.d (.v (.int .i64 0))),(1,.ptr 0 0)]) (fun _=>[.box 30 ((eW s).map .d)]) rfl wf ?_ ?_
    ·intro k p hx hk hI C hC;have dH:(k:Int) < (s.book.pools.length:Int):=by omega
     have cM:=wi k (by omega);have h4:=Xj (fu.out p (Xl hx));have lL:=Xj hx;replace hI:=Xj hI;refine am ?_;clear hx;refine bg ae ak p.leases (fun j=>((p.leases.take j).all (Iu s.net.vpcs p.id))=true) (fun j=>[(12,.d (.v (.int .i64 j))),(11,.ptr 1 0),(10,.d (.v (.int .i64 k))),(2,.d (.v (.int .i64 0))),(1,.ptr 0 0)]) (fun _=>[.box 30 ((eW s).map .d),.box 62 ((ah p).map .d)]) rfl wf ?_ ?_
     ·intro j l hy hj hJ C2 jz;have ic:(j:Int) < (p.leases.length:Int):=by omega
      have j6:IntKind.i64.wrap ((j:Int)+1)=((j+1:Nat):Int):=by have:=h4.out;rw[IntKind.wrap_i64];omega
      have Pa:=gJ s.net l.owner (by omega);have MP:=Xj hy;replace hJ:=Xj hJ;have bH:Iu s.net.vpcs p.id l=false→R=1:=fun e=>by
       rw[aP.out,if_neg];intro h;have:=XE.1 (XE.1 h p (Xl lL.out)) l (Xl MP.out);rw[e]at this;cases this
      have gQ:Iu s.net.vpcs p.id l=true→((p.leases.take (j+1)).all (Iu s.net.vpcs p.id))=true:=fun e=>by
       rw[ag MP.out,ZO,hJ.out];simpa using e
      cases T0:l.kind==1 with
      |false=>
       have hg:=Xj (gQ (by unfold Iu;rw[T0];rfl));clear bH gQ Pa;refine am ?_;exact jz _ _ hg.out wf
      |true=>
       rcases LN (fun v:Vpc=>v.id==l.owner) s.net.vpcs with⟨h0,hf⟩|⟨i,v,hi,hv,hf⟩
       ·have hg:=Xj (gQ (by unfold Iu;rw[T0,hf];rfl));have e1:decide (cv (fun v:Vpc=>v.id==l.owner) s.net.vpcs≥0)=false:=by simp;omega
        generalize cv (fun v:Vpc=>v.id==l.owner) s.net.vpcs=ix at*;replace h0:=Xj h0;replace hf:=Xj hf;clear bH gQ;refine am ?_;exact jz _ _ hg.out wf
       ·rw[hi]at Pa;have TV:=(Xn.1 hv).1;have MS:(i:Int) < (s.net.vpcs.length:Int):=by omega
        have jU:decide ((i:Int)≥0)=true:=by simp
        have hh:=wA v ⟨l.at_,p.id⟩ (by have:=Rn.out v (Xl hv);omega);replace hi:=Xj hi;cases hb:v.ranges.any fun x=>decide (x=(⟨l.at_,p.id⟩:Rng))with
        |true=>
         have hg:=Xj (gQ (by unfold Iu;rw[T0,hf];exact hb));rw[hb]at hh;replace hb:=Xj hb;replace hf:=Xj hf;clear bH gQ;refine am ?_;exact jz _ _ hg.out wf
        |false=>
         have hr:=bH (by unfold Iu;rw[T0,hf];exact hb);rw[hb]at hh;replace hb:=Xj hb;replace hf:=Xj hf;clear bH gQ;rw[hr];exact aZ
     ·intro hJ C2;rw[Xt]at hJ;have lS:((s.book.pools.take (k+1)).all fun p=>p.leases.all (Iu s.net.vpcs p.id))=true:=by
       rw[ag lL.out,ZO,hI.out];simpa using hJ
      replace lS:=Xj lS;replace hJ:=Xj hJ;refine am ?_;exact hC _ _ lS.out wf
    ·intro hI C;rw[Xt]at hI;have hr:R=0:=by rw[aP.out,if_pos (show E4 s=true from hI)]
     rw[hr];replace hI:=Xj hI;exact aZ
  ·have e2:(cK s.net !=0)=true:=by simpa using h2
   rw[if_pos h2];generalize cK s.net=X at*;replace h1:=Xj h1;replace h2:=Xj h2;refine pj func12 ntmps12 results12 ?_;exact aZ
 ·have e2:(a9 s.book !=0)=true:=by simpa using h1
  rw[if_pos h1];generalize a9 s.book=X at*;replace h1:=Xj h1;refine pj func12 ntmps12 results12 ?_;exact aZ
theorem LO (v:Vpc)(pre post:List Sbn)(s0:Sbn)(hv:v.subs=pre++s0::post)(h4:v.ranges.length≤4)(h6:v.subs.length≤6)(h8:∀s∈v.subs,s.faces.length≤8∧∀f∈s.faces,f.addrs.length≤4):
 MSpec prog 44 [.d (.agg (al v))] [] (.agg [.d (.v (.int .i64 v.id)),.own 2 1,.own 4 v.subs.length]) [.gone,.gone,.row 58 3 1 (ab (v.ranges.map bv)),.gone,.row 71 4 v.subs.length (eR aU pre (ci s0 (.own 6 s0.faces.length)) post),.gone,.row 74 2 s0.faces.length (ab (s0.faces.map cl))]:=by
 replace h8:=Xj h8;have bT:v.subs.length=pre.length+1+post.length:=by rw[hv];simp;omega
 have hL:=Xj hv;have bU:=Xj bT;clear hv bT;refine mj func44 ntmps44 results44 ?_;refine am ?_<;>intros;refine bL ae ak (fun m e h=>(∃k,k≤pre.length∧m=v.subs.length - k∧e=[(4,.d (.v (.int .i64 k))),(3,.ptr 3 0),(2,.ptr 1 0),(1,.ptr 0 0)]∧h=[.box 55 ((al v).map .d),.box 55 [.d (.v (.int .i64 0)),.d (.v (.slice none 0 0)),.d (.v (.slice none 0 0))],.row 58 3 1 (ab (v.ranges.map bv)),.box 55 [.d (.v (.int .i64 v.id)),.own 2 1,.own 4 k],.row 71 4 k (ab ((pre.take k).map aU))])∨
  ∃k j,k=pre.length+1+j∧j≤post.length∧m=v.subs.length - k∧e=[(4,.d (.v (.int .i64 k))),(3,.ptr 3 0),(2,.ptr 1 0),(1,.ptr 0 0)]∧h=[.box 55 ((al v).map .d),.box 55 [.d (.v (.int .i64 0)),.d (.v (.slice none 0 0)),.d (.v (.slice none 0 0))],.row 58 3 1 (ab (v.ranges.map bv)),.box 55 [.d (.v (.int .i64 v.id)),.own 2 1,.own 4 k],.row 71 4 k (eR aU pre (ci s0 (.own 6 s0.faces.length)) (post.take j)),.gone,.row 74 2 s0.faces.length (ab (s0.faces.map cl))]) _ _ _ (.inl ⟨0,XD _,rfl,rfl,rfl⟩) ?_ ?_
 ·refine(au (by simp) 3 55 [.d (.v (.int .i64 v.id)),.own 2 1,.d (.v (.slice none 0 0))] 2 71 4 rfl rfl rfl).trans ?_;exact wf (hb:=cI) (hbh:=cI)
 ·rintro m e h (⟨k,hk,hm,rfl,rfl⟩|⟨k,q,AI,hj,hm,rfl,rfl⟩) CO sX
  ·have dH:(k:Int) < (v.subs.length:Int):=by have:=bU.out;omega
   have cM:=wi k (by omega);have i7:k+1≤100:=by have:=bU.out;omega
   have i4:(Yf k pre).length=k:=by rw[Xp];omega
   have hm:=Xj hm;by_cases lK:k < pre.length
   ·obtain⟨s,hq⟩:∃s,pre[k]? =some s:=⟨_,Xk lK⟩;have hs:v.subs[k]? =some s:=by rw[hL.out,X4 lK];exact hq
    have iH:=h8.out s (Xl hs);replace hs:=Xj hs;replace hq:=Xj hq;have lh:=hs.out;refine am ?_<;>intros;refine bg ae ak s.faces (fun _=>True) (fun j=>[(6,.d (.v (.int .i64 j))),(5,.ptr 5 0),(4,.d (.v (.int .i64 k))),(3,.ptr 3 0),(2,.ptr 1 0),(1,.ptr 0 0)])
     (fun j=>[.box 55 ((al v).map .d),.box 55 [.d (.v (.int .i64 0)),.d (.v (.slice none 0 0)),.d (.v (.slice none 0 0))],.row 58 3 1 (ab (v.ranges.map bv)),.box 55 [.d (.v (.int .i64 v.id)),.own 2 1,.own 4 k],.row 71 4 k (ab ((pre.take k).map aU)),.box 71 [.d (.v (.int .i64 s.id)),.d (.v (.int .i64 s.at_.at_)),.d (.v (.int .i64 s.at_.len)),.own 6 j],.row 74 2 j (ab ((s.faces.take j).map cl))]) trivial ?_ ?_ ?_
    ·refine(au (by simp) 5 71 [.d (.v (.int .i64 s.id)),.d (.v (.int .i64 s.at_.at_)),.d (.v (.int .i64 s.at_.len)),.d (.v (.slice none 0 0))] 3 74 2 rfl rfl rfl).trans ?_;exact wf (hb:=cI) (hbh:=cI)
    ·intro j f hf hj _ C hC;have ic:(j:Int) < (s.faces.length:Int):=by omega
     have j6:=wi j (by omega);have gS:=iH.2 f (Xl hf);have jd:j+1≤100:=by omega
     have pf:(Yf j s.faces).length=j:=by rw[Xp];omega
     replace hf:=Xj hf;have zj:=hf.out;refine am ?_<;>intros;refine hC _ _ trivial ((ap 8 1 3 1 (f.addrs.map cD) rfl).trans ?_);simp only[iu,fz,gr,f7,gV,f5,aR,bR,bW,Xm,Xu,XM,XL,reduceIte,and_true,true_and,and_self,and_false,false_and,XG,XW,reduceCtorEq,cV];exact wf (hh:=(by rw[ag hf.out,Xo,Xm,Xu,←aI];rfl)) (hb:=cI) (hbh:=cI)
    ·intro _ C;refine am ?_<;>intros;refine sX _ _ _ _ _ ?_ (.inl ⟨k+1,lK,rfl,rfl,rfl⟩) ((ap 6 s.faces.length 74 2 (s.faces.map cl) rfl).trans ?_)
     ·have:=hm.out;have:=bU.out;omega
     simp only[iu,fz,gr,f7,gV,f5,aR,bR,bW,Xm,Xu,XM,XL,reduceIte,and_true,true_and,and_self,and_false,false_and,XG,XW,reduceCtorEq];exact wf (hh:=(by rw[ag hq.out,Xo,Xm,Xu,←aI];rfl)) (hb:=cI) (hbh:=cI)
   ·obtain rfl:k=pre.length:=by omega
    have hs:v.subs[pre.length]? =some s0:=by rw[hL.out,XK (XB _),YG];rfl
    have iH:=h8.out s0 (Xl hs);replace hs:=Xj hs;have lh:=hs.out;obtain⟨k,iV⟩:∃k,k=pre.length:=⟨_,rfl⟩;obtain⟨s,oK⟩:∃s,s=s0:=⟨_,rfl⟩;rw[←oK]at iH lh sX ⊢;rw[←iV]at lh dH cM i7 i4 sX ⊢;rw[iV,Xt]at i4;replace oK:=Xj oK;replace iV:=Xj iV;refine am ?_<;>intros;refine bg ae ak s.faces (fun _=>True) (fun j=>[(6,.d (.v (.int .i64 j))),(5,.ptr 5 0),(4,.d (.v (.int .i64 k))),(3,.ptr 3 0),(2,.ptr 1 0),(1,.ptr 0 0)])
     (fun j=>[.box 55 ((al v).map .d),.box 55 [.d (.v (.int .i64 0)),.d (.v (.slice none 0 0)),.d (.v (.slice none 0 0))],.row 58 3 1 (ab (v.ranges.map bv)),.box 55 [.d (.v (.int .i64 v.id)),.own 2 1,.own 4 k],.row 71 4 k (ab ((pre.take k).map aU)),.box 71 [.d (.v (.int .i64 s.id)),.d (.v (.int .i64 s.at_.at_)),.d (.v (.int .i64 s.at_.len)),.own 6 j],.row 74 2 j (ab ((s.faces.take j).map cl))]) trivial ?_ ?_ ?_
    ·refine(au (by simp) 5 71 [.d (.v (.int .i64 s.id)),.d (.v (.int .i64 s.at_.at_)),.d (.v (.int .i64 s.at_.len)),.d (.v (.slice none 0 0))] 3 74 2 rfl rfl rfl).trans ?_;exact wf (hb:=cI) (hbh:=cI)
    ·intro j f hf hj _ C hC;have ic:(j:Int) < (s.faces.length:Int):=by omega
     have j6:=wi j (by omega);have gS:=iH.2 f (Xl hf);have jd:j+1≤100:=by omega
     have pf:(Yf j s.faces).length=j:=by rw[Xp];omega
     replace hf:=Xj hf;have zj:=hf.out;refine am ?_<;>intros;refine hC _ _ trivial ((ap 8 1 3 1 (f.addrs.map cD) rfl).trans ?_);simp only[iu,fz,gr,f7,gV,f5,aR,bR,bW,Xm,Xu,XM,XL,reduceIte,and_true,true_and,and_self,and_false,false_and,XG,XW,reduceCtorEq,cV];exact wf (hh:=(by rw[ag hf.out,Xo,Xm,Xu,←aI];rfl)) (hb:=cI) (hbh:=cI)
    ·intro _ C;have Rr:(Yf k pre).length=k:=by rw[iV.out,Xt]
     refine am ?_<;>intros;refine sX _ _ _ _ _ ?_ (.inr ⟨k+1,0,by rw[iV.out],XD _,rfl,rfl,rfl⟩) ((aL 5 (by simp)).trans ?_)
     ·have:=hm.out;have:=bU.out;have:=iV.out;omega
     exact wf (hh:=(by rw[iV.out,Xt];rfl)) (hb:=cI) (hbh:=cI)
  ·have hm:=Xj hm;have rP:=Xj AI;have i7:pre.length+1+q+1≤100:=by have:=bU.out;omega
   have i4:(Yf q post).length=q:=by rw[Xp];omega
   have uw:k≤v.subs.length:=by have:=bU.out;omega
   by_cases w8:q < post.length
   ·obtain⟨s,hq⟩:∃s,post[q]? =some s:=⟨_,Xk w8⟩;have hs:v.subs[k]? =some s:=by
     rw[hL.out,XK (by omega),show k - pre.length=q+1 by omega,Yw];exact hq
    have iH:=h8.out s (Xl hs);have dH:(k:Int) < (v.subs.length:Int):=by have:=bU.out;omega
    have cM:=wi k (by omega);replace hq:=Xj hq;replace hs:=Xj hs;have lh:=hs.out;clear AI;refine am ?_<;>intros;refine bg ae ak s.faces (fun _=>True) (fun j=>[(6,.d (.v (.int .i64 j))),(5,.ptr 7 0),(4,.d (.v (.int .i64 k))),(3,.ptr 3 0),(2,.ptr 1 0),(1,.ptr 0 0)])
     (fun j=>[.box 55 ((al v).map .d),.box 55 [.d (.v (.int .i64 0)),.d (.v (.slice none 0 0)),.d (.v (.slice none 0 0))],.row 58 3 1 (ab (v.ranges.map bv)),.box 55 [.d (.v (.int .i64 v.id)),.own 2 1,.own 4 k],.row 71 4 k (eR aU pre (ci s0 (.own 6 s0.faces.length)) (post.take q)),.gone,.row 74 2 s0.faces.length (ab (s0.faces.map cl)),.box 71 [.d (.v (.int .i64 s.id)),.d (.v (.int .i64 s.at_.at_)),.d (.v (.int .i64 s.at_.len)),.own 8 j],.row 74 2 j (ab ((s.faces.take j).map cl))]) trivial ?_ ?_ ?_
    ·refine(au (by simp) 7 71 [.d (.v (.int .i64 s.id)),.d (.v (.int .i64 s.at_.at_)),.d (.v (.int .i64 s.at_.len)),.d (.v (.slice none 0 0))] 3 74 2 rfl rfl rfl).trans ?_;exact wf (hb:=cI) (hbh:=cI)
    ·intro j f hf hj _ C hC;have ic:(j:Int) < (s.faces.length:Int):=by omega
     have j6:=wi j (by omega);have gS:=iH.2 f (Xl hf);have jd:j+1≤100:=by omega
     have pf:(Yf j s.faces).length=j:=by rw[Xp];omega
     replace hf:=Xj hf;have zj:=hf.out;refine am ?_<;>intros;refine hC _ _ trivial ((ap 10 1 3 1 (f.addrs.map cD) rfl).trans ?_);simp only[iu,fz,gr,f7,gV,f5,aR,bR,bW,Xm,Xu,XM,XL,reduceIte,and_true,true_and,and_self,and_false,false_and,XG,XW,reduceCtorEq,cV];exact wf (hh:=(by rw[ag hf.out,Xo,Xm,Xu,←aI];rfl)) (hb:=cI) (hbh:=cI)
    ·intro _ C;refine am ?_<;>intros;refine sX _ _ _ _ _ ?_ (.inr ⟨k+1,q+1,by have:=rP.out;omega,w8,rfl,rfl,rfl⟩) ((ap 8 s.faces.length 74 2 (s.faces.map cl) rfl).trans ?_)
     ·have:=hm.out;have:=bU.out;have:=rP.out;omega
     simp only[iu,fz,gr,f7,gV,f5,aR,bR,bW,Xm,Xu,XM,XL,reduceIte,and_true,true_and,and_self,and_false,false_and,XG,XW,reduceCtorEq,cV,ci];exact wf (hh:=(by rw[ag hq.out,←kD];rfl)) (hb:=cI) (hbh:=cI)
   ·obtain rfl:q=post.length:=by omega
    obtain rfl:k=v.subs.length:=by have:=bU.out;omega
    clear AI;refine am ?_<;>intros;(try rw[Xt])
    refine(aL 0 (by simp)).trans ?_;refine(aL 1 (by simp[bw])).trans ?_;exact(aL 3 (by simp[bw])).trans (bo rfl rfl)
theorem uv (v:Vpc)(id:Int)(hl:v.subs.length≤1000000000):af prog 225 [.agg (al v),.v (.int .i64 id)] (.v (.int .i64 (cv (fun s=>s.id==id) v.subs))):=by
 refine pj func225 ntmps225 results225 ?_;refine am ?_<;>intros;refine bg ae ak v.subs (fun k=>(v.subs.take k).all (fun s=>!(s.id==id))=true) (fun k=>[(5,.d (.v (.int .i64 k))),(4,.d (.v (.int .i64 0))),(2,.ptr 0 0),(1,.d (.v (.int .i64 id)))]) (fun _=>[.box 55 ((al v).map .d)]) rfl (wf) ?_ ?_
 ·intro k p hp hk hI C hC;have dH:(k:Int) < (v.subs.length:Int):=by omega
  have cM:=wi k (by omega);replace hI:=Xj hI;refine wX ?_ ?_<;>intros
  ·rename_i h1;exact qV (vx hp (by simpa using h1) hI.out).symm
  ·rename_i h1;exact hC _ _ (d7 hp hI.out (by simpa using h1)) (wf)
 ·intro hI C;replace hI:=Xj hI;refine am ?_<;>intros;exact qV (zS hI.out).symm
theorem wC (s:Sbn)(id:Int)(hl:s.faces.length≤1000000000):af prog 227 [.agg (aU s),.v (.int .i64 id)] (.v (.int .i64 (cv (fun f=>f.id==id) s.faces))):=by
 refine pj func227 ntmps227 results227 ?_;refine am ?_<;>intros;refine bg ae ak s.faces (fun k=>(s.faces.take k).all (fun f=>!(f.id==id))=true) (fun k=>[(5,.d (.v (.int .i64 k))),(4,.d (.v (.int .i64 0))),(2,.ptr 0 0),(1,.d (.v (.int .i64 id)))]) (fun _=>[.box 71 ((aU s).map .d)]) rfl (wf) ?_ ?_
 ·intro k p hp hk hI C hC;have dH:(k:Int) < (s.faces.length:Int):=by omega
  have cM:=wi k (by omega);replace hI:=Xj hI;refine wX ?_ ?_<;>intros
  ·rename_i h1;exact qV (vx hp (by simpa using h1) hI.out).symm
  ·rename_i h1;exact hC _ _ (d7 hp hI.out (by simpa using h1)) (wf)
 ·intro hI C;replace hI:=Xj hI;refine am ?_<;>intros;exact qV (zS hI.out).symm
theorem y9 {used:List Int}{p:Pfx}{n:Nat}{a:Int}(h:iO p a=false):fG used p n a=none:=by
 cases n with
 |zero=>rfl
 |succ n=>rw[fG,if_neg (by simp[h])]
theorem ry {p:Pfx}{a:Int}(hr:p.right=true):iO p a=true↔p.at_ < a∧a < p.hi - 1:=by
 unfold iO;have hb:=p.hi_bd hr;have he:p.hi=p.at_+eD p.len:=rfl;simp only[Xy,decide_eq_true_eq,oe,mi];constructor
 ·rintro⟨-,h1,h2⟩;omega
 ·rintro⟨h1,h2⟩;exact⟨⟨hr,by omega,by omega⟩,by omega,by omega⟩
theorem Db (s:Sbn)(h8:s.faces.length≤8)(h4:∀f∈s.faces,f.addrs.length≤4)(hr:s.at_.right=true):af prog 226 [.agg (aU s)] (.v (.int .i64 ((eA s).getD (-1)))):=by
 have nm:af prog 190 [.agg (aN s.at_)] (.v (.int .i64 (s.at_.hi - 1))):=J7 s.at_ (by rw[←Pfx.right];exact hr);have Q5:=s.at_.hi_bd hr;obtain⟨r1,r2,r3,r4,-⟩:=s.at_.bd hr;obtain⟨R,hR⟩:∃R,R=(eA s).getD (-1):=⟨_,rfl⟩;rw[←hR];replace hR:=Xj hR;refine pj func226 ntmps226 results226 ?_;refine am ?_<;>intros;refine bL ae ak (fun m e h=>∃(i:Nat) (a:Int),a=s.at_.at_+i∧a≤s.at_.hi∧(0 < i→eA s=fG (s.faces.flatMap (·.addrs)) s.at_ (65537 - i) a)∧m=65537 - i∧
  e=[(3,.d (.v (.int .i64 a))),(2,.d (.v (.int .i64 0))),(1,.ptr 0 0)]∧h=[.box 71 ((aU s).map .d)]) 65537 _ _ ⟨0,s.at_.at_,by simp,by omega,fun h=>absurd h (Nat.lt_irrefl _),rfl,rfl,rfl⟩ (wf) ?_
 rintro m e h ⟨i,a,ha,WB,hle,hm,rfl,rfl⟩ C hC;have TV:i≤65536:=by omega
 replace hm:=Xj hm;replace hle:=Xj hle;replace ha:=Xj ha;by_cases pg:a≤s.at_.hi - 1
 ·have PI:decide (a≤s.at_.hi - 1)=true:=by simpa using pg
  have Az:IntKind.i64.wrap (a+1)=a+1:=by rw[IntKind.wrap_i64];have:=ha.out;omega
  have dB:=BZ s a;obtain⟨Z,hZ⟩:∃Z,Z=s.at_.hi - 1:=⟨_,rfl⟩;rw[←hZ]at PI nm;replace hZ:=Xj hZ;replace pg:=Xj pg;replace WB:=Xj WB;replace Q5:=Xj Q5;obtain⟨B,hB⟩:∃B,B=iO s.at_ a:=⟨_,rfl⟩;rw[←hB]at dB;replace hB:=Xj hB;refine am ?_<;>intros;refine bL ae ak (fun m e h=>∃(k:Nat) (F:Bool),k≤s.faces.length∧F=(B&&!((s.faces.take k).flatMap (·.addrs)).contains a)∧m=s.faces.length - k∧
   e=[(5,.d (.v (.int .i64 k))),(4,.d (.v (.bool F))),(3,.d (.v (.int .i64 a))),(2,.d (.v (.int .i64 0))),(1,.ptr 0 0)]∧h=[.box 71 ((aU s).map .d)]) _ _ _ ⟨0,B,XD _,by simp,rfl,rfl,rfl⟩ (wf) ?_
  rintro m2 e h ⟨k,F,hk,hF,gT,rfl,rfl⟩ C2 jz;replace gT:=Xj gT;replace hF:=Xj hF;by_cases hlt:k < s.faces.length
  ·have dH:(k:Int) < (s.faces.length:Int):=by omega
   have cM:=wi k (by omega);obtain⟨f,hf⟩:∃f,s.faces[k]? =some f:=⟨_,Xk hlt⟩;have gS:=h4 f (Xl hf);refine am ?_<;>intros;refine bL ae ak (fun m e h=>∃(j:Nat) (F2:Bool),j≤f.addrs.length∧F2=(B&&!((s.faces.take k).flatMap (·.addrs)++f.addrs.take j).contains a)∧m=f.addrs.length - j∧
    e=[(6,.d (.v (.int .i64 j))),(5,.d (.v (.int .i64 k))),(4,.d (.v (.bool F2))),(3,.d (.v (.int .i64 a))),(2,.d (.v (.int .i64 0))),(1,.ptr 0 0)]∧h=[.box 71 ((aU s).map .d)]) _ _ _ ⟨0,F,XD _,by rw[hF.out];simp,rfl,rfl,rfl⟩ (wf) ?_
   rintro m3 e h ⟨j,F2,hj,MX,T1,rfl,rfl⟩ C3 PE;replace T1:=Xj T1;replace MX:=Xj MX;by_cases pf:j < f.addrs.length
   ·have ic:(j:Int) < (f.addrs.length:Int):=by omega
    have j6:=wi j (by omega);obtain⟨x,hx⟩:∃x,f.addrs[j]? =some x:=⟨_,Xk pf⟩;have dP:(B&&!((s.faces.take k).flatMap (·.addrs)++f.addrs.take (j+1)).contains a)=(F2&&(x !=a)):=by
     rw[MX.out,ag hx,←X3];generalize (s.faces.take k).flatMap (·.addrs)++f.addrs.take j=L;cases B
     ·rfl
     ·rw[Yr,Yr,Yi];simp[ZL,X2];intro _;exact⟨fun h e=>h e.symm,fun h e=>h e.symm⟩
    replace dP:=Xj dP;cases F2 with
    |true=>
     refine am ?_<;>intros;refine PE _ _ _ _ _ ?_ ⟨j+1,(x !=a),pf,by rw[dP.out];rfl,rfl,rfl,rfl⟩ (wf);have:=T1.out;omega
    |false=>
     refine am ?_<;>intros;refine PE _ _ _ _ _ ?_ ⟨j+1,false,pf,by rw[dP.out];rfl,rfl,rfl,rfl⟩ (wf);have:=T1.out;omega
   ·obtain rfl:j=f.addrs.length:=by omega
    have dP:F2=(B&&!((s.faces.take (k+1)).flatMap (·.addrs)).contains a):=by
     rw[MX.out,Xt,ag hf,Zs];simp
    replace dP:=Xj dP;refine am ?_<;>intros;refine jz _ _ _ _ _ ?_ ⟨k+1,F2,hlt,dP.out,rfl,rfl,rfl⟩ (wf);have:=gT.out;omega
  ·obtain rfl:k=s.faces.length:=by omega
   have MX:=hF.out;rw[Xt]at MX;replace MX:=Xj MX;clear hF;have T2:∀n,fG (s.faces.flatMap (·.addrs)) s.at_ (n+1) a=if B=true then (if a∈s.faces.flatMap (·.addrs)then fG (s.faces.flatMap (·.addrs)) s.at_ n (a+1)else some a)else none:=fun n=>by rw[fG,←hB.out]
   have RJ:65537 - i=(65536 - i)+1:=by omega
   replace T2:=Xj T2;cases F with
   |true=>
    have hb:R=a:=by
     have h1:=MX.out;have PL:B=true:=by cases B<;>simp at h1 ⊢
     have hau:a∉s.faces.flatMap (·.addrs):=by
      rw[PL,Yr]at h1;intro hm;rw[ZL.2 hm]at h1;simp at h1
     have jU:0 < i:=by
      have h2:=(ry hr).1 (by rw[←hB.out];exact PL);have:=ha.out;omega
     rw[hR.out,hle.out jU,RJ,T2.out,if_pos PL,if_neg hau];rfl
    rw[hb];replace hb:=Xj hb;exact aZ;all_goals exact ai.refl _
   |false=>
    have PG:eA s=fG (s.faces.flatMap (·.addrs)) s.at_ (65537 - (i+1)) (a+1):=by
     rw[show 65537 - (i+1)=65536 - i by omega];have h1:=MX.out;by_cases jU:0 < i
     ·rw[hle.out jU,RJ,T2.out];by_cases PL:B=true
      ·rw[if_pos PL,if_pos];rw[PL,Yr]at h1;rw[←ZL];revert h1;cases(s.faces.flatMap (·.addrs)).contains a<;>simp
      ·rw[if_neg PL];have h2:iO s.at_ (a+1)=false:=by
        rw[YE,ne_eq,ry hr];intro h3;have h4:iO s.at_ a=true:=(ry hr).2 ⟨by have:=ha.out;omega,by omega⟩;rw[←hB.out]at h4;exact PL h4
       rw[y9 h2]
     ·obtain rfl:i=0:=by omega
      have:=ha.out;rw[show a+1=s.at_.at_+1 by omega];rfl
    replace PG:=Xj PG;refine am ?_<;>intros;refine hC _ _ _ _ _ ?_ ⟨i+1,a+1,by rw[ha.out];omega,by have:=pg.out;omega,fun _=>PG.out,rfl,rfl,rfl⟩ (wf);have:=hm.out;omega
 ·have PI:decide (a≤s.at_.hi - 1)=false:=by simpa using pg
  have hb:R= -1:=by
   have h2:iO s.at_ a=false:=by
    rw[YE,ne_eq,ry hr];omega
   rw[hR.out,hle.out (by have:=ha.out;omega),y9 h2];rfl
  rw[hb];replace hb:=Xj hb;replace pg:=Xj pg;exact aZ;all_goals exact ai.refl _
theorem wD {u:List Int}{p:Pfx}{a:Int}:∀{n:Nat}{b:Int},fG u p n b=some a→iO p a=true
 |0,_,h=>by simp[fG]at h
 |n+1,b,h=>by
  rw[fG]at h;split at h
  ·rename_i hb;split at h
   ·exact wD h
   ·rw[←XX.inj h];exact hb
  ·cases h
theorem Ix (v:Vpc)(sub id:Int)(hl:v.subs.length≤9223372036854775807)(hf:∀s∈v.subs,s.faces.length≤9223372036854775807):af prog 173 [.agg (al v),.v (.int .i64 sub),.v (.int .i64 id)] (.tup [.agg (al (gA v sub id).1),.v (.int .i64 (gA v sub id).2.1),.v (.int .i64 (gA v sub id).2.2)]):=by
 obtain⟨R,hR⟩:∃R,R=gA v sub id:=⟨_,rfl⟩;rw[←hR];replace hR:=Xj hR;have bc:=gy v hl hf;clear hl hf;by_cases hc:bN v=0
 ·have hk:=aY hc;have IT:=hk.n4;have DN:=hk.n6;have cY:=uv v sub (by omega);unfold cv at cY
  have aP:=hR.out;unfold gA at aP;rw[if_neg (by simpa using hc)]at aP;rw[hc]at bc;clear hR hc;have ud:decide ((-1:Int) < 0)=true:=rfl;cases hf:v.subs.findIdx? (fun s=>s.id==sub)with
  |none=>
   rw[hf]at cY aP;simp only at cY aP;rw[aP];replace aP:=Xj aP;clear hk hf;refine pj func173 ntmps173 results173 ?_;refine am ?_<;>intros;all_goals exact dg
  |some i=>
   obtain⟨pre,s,post,hv,iG,-,hs⟩:=fH hf;have kq:=Xl hs;have iH:=hk.n8 s kq;have gk:=LO v pre post s hv hk.n4 hk.n6 hk.n8;have VD:=o0 hk kq;have hle:=Db s iH.1 iH.2 VD.1;have hw:af prog 75 [.v (.int .i64 id),.v (.int .i64 1),.v (.int .i64 65536)] (.v (.bool (cF id))):=fZ _ _ _;have jY:=wC s id (by omega);have jU:decide ((i:Int) < 0)=false:=by simp
   have o9:v.subs.length=pre.length+1+post.length:=by rw[hv];simp;omega
   rw[hf]at cY aP;simp only[hs]at cY aP;have dP:=Xj VD.2.2.1;clear hk hf VD;have T3:=fK (fun f:Fce=>f.id==id) s.faces;obtain⟨J,hJ⟩:∃J,J=cv (fun f:Fce=>f.id==id) s.faces:=⟨_,rfl⟩;rw[←hJ]at jY T3;clear hJ;unfold kn at aP;by_cases bH:cF id=false∨(s.faces.any fun f=>f.id==id)=true∨s.faces.length=8∨(eA s).isSome=false
   ·replace hv:=Xj hv;clear gk iG o9;cases b1:cF id with
    |false=>
     rw[b1]at aP hw;have hr:R=(Vpc.zero,0,3):=by rw[aP];rfl
     rw[hr];replace hr:=Xj hr;clear aP bH;refine pj func173 ntmps173 results173 ?_;refine am ?_<;>intros;all_goals exact dg
    |true=>
    rw[b1]at aP hw;cases b2:s.faces.any fun f=>f.id==id with
    |true=>
     rw[b2]at aP T3;have hr:R=(Vpc.zero,0,6):=by rw[aP];simp
     rw[hr];replace hr:=Xj hr;clear aP bH;refine pj func173 ntmps173 results173 ?_;refine am ?_<;>intros;all_goals exact dg
    |false=>
    rw[b2]at aP T3;by_cases b3:s.faces.length=8
    ·have hr:R=(Vpc.zero,0,2):=by rw[aP];simp[b3]
     have hd:decide ((s.faces.length:Int)≥8)=true:=by simp;omega
     rw[hr];replace hr:=Xj hr;replace b3:=Xj b3;clear aP bH;refine pj func173 ntmps173 results173 ?_;refine am ?_<;>intros;all_goals exact dg
    ·have hd:decide ((s.faces.length:Int)≥8)=false:=by simp;omega
     have b4:eA s=none:=by
      rcases bH with h|h|h|h
      ·rw[b1]at h;cases h
      ·rw[b2]at h;cases h
      ·exact absurd h b3
      ·simpa using h
     have hr:R=(Vpc.zero,0,8):=by rw[aP];simp[b3,b4]
     rw[b4,Option.getD_none]at hle;have ud:decide ((-1:Int) < 0)=true:=rfl;rw[hr];replace hr:=Xj hr;clear aP bH b4;refine pj func173 ntmps173 results173 ?_;refine am ?_<;>intros;all_goals exact dg
   ·obtain⟨b1,bH⟩:=not_or.1 bH;obtain⟨b2,bH⟩:=not_or.1 bH;obtain⟨b3,b4⟩:=not_or.1 bH;simp only[Bool.not_eq_false,ZI]at b1 b2 b4;obtain⟨a,ha⟩:=Zf.1 b4;have VE:0≤a:=by
     have h1:=Ae (wD (show fG _ _ _ _=some a from ha));obtain⟨-,-,r3,-,-⟩:=s.at_.bd h1.1;omega
    rw[b1]at hw;rw[b2]at T3;rw[ha,YI]at hle;have ha0:decide (a < 0)=false:=by simpa using VE
    have hd:decide ((s.faces.length:Int)≥8)=false:=by simp;omega
    have i7:(s.faces.length+1)*32≤140737488355328:=by omega
    have fI:R=({v with subs:=pre++{s with faces:=df (·.id) ⟨id,[a]⟩ s.faces}::post},a,0):=by
     rw[aP,if_neg (by simp[b1,b2,b3,ha]),ha,YI];rw[hv,←iG,Yt _ _ (XB _),YG,Xv]
    clear aP;replace hv:=Xj hv;replace fI:=Xj fI;replace b2:=Xj b2;clear b4;have Wz:IntKind.i64.wrap (((s.faces.length+1:Nat):Int) - 1)=(s.faces.length:Int):=by rw[IntKind.wrap_i64];omega
    subst iG;refine pj func173 ntmps173 results173 ?_;have z1z:=@ci.eq_1;have z2z:=Ln.mk (ls:=[]) (gk);refine am ?_<;>intros;clear bc cY hle hw jY gk;have RB:∀f∈s.faces,f.id≠id:=fun f hf he=>by
     have:=Yh.1 b2.out f hf;simp at this;exact this he
    replace RB:=Xj RB;refine bL ae ak (fun m e h=>∃(q:Nat) (out:List Fce),Ao (fun f:Fce=>f.id) ⟨id,[a]⟩ s.faces q out∧out.length=s.faces.length+1∧m=q∧e=[(14,.d (.v (.int .i64 q))),(13,.rp 6 (pre.length+1+post.length) 4 pre.length 0),(12,.ptr 9 0),(11,.d (.v (.int .i64 a))),(6,.ptr 1 0)]∧h=[.box 55 ((al v).map .d),.box 55 [.d (.v (.int .i64 0)),.d (.v (.slice none 0 0)),.d (.v (.slice none 0 0))],.gone,.gone,.row 58 3 1 (ab (v.ranges.map bv)),.gone,.row 71 4 (pre.length+1+post.length) (eR aU pre (ci s (.own 8 (s.faces.length+1))) post),.gone,.row 74 2 (s.faces.length+1) (ab (out.map cl)),.box 55 [.d (.v (.int .i64 v.id)),.own 4 1,.own 6 (pre.length+1+post.length)]]) _ _ _ ⟨s.faces.length,s.faces++[⟨id,[a]⟩],Lz,by simp,rfl,rfl,rfl⟩ (wf (hh:=(by rw[Xo];rfl)) (hb:=cI) (hbh:=cI)) ?_;rintro m e h ⟨q,out,tX,nL,hm,rfl,rfl⟩ C hC;have sS:=tX.1;have hx:=LB tX;replace tX:=Xj tX;replace hm:=Xj hm;by_cases h0:0 < q
    ·have Rz:decide ((q:Int)>0)=true:=by simp;omega
     obtain⟨y,hy⟩:∃y,s.faces[q - 1]? =some y:=⟨_,Xk (by omega)⟩;have MP:=LC tX.out h0 hy;have AB:IntKind.i64.wrap ((q:Int) - 1)=((q - 1:Nat):Int):=by rw[IntKind.wrap_i64];omega
     have po:q < out.length:=by omega
     have WA:q - 1 < out.length:=by omega
     replace nL:=Xj nL;replace h0:=Xj h0;replace hy:=Xj hy;cases b5:decide (y.id>id)with
     |true=>
      have jd:=LD tX.out h0.out hy.out (of_decide_eq_true b5);replace jd:=Xj jd;have Mz:∀X:List PV,((ab (out.map cl)).set (q - 1) X)[q]? =some [.d (.v (.int .i64 id)),.d (.sl 1 [cD a])]:=fun X=>by
       rw[Z7 (by have:=h0.out;omega),gG,Xz,hx];rfl
      have z1z:=@ci.eq_1;refine am ?_<;>intros;refine hC _ _ _ _ _ ?_ ⟨q - 1,(out.set (q - 1) ⟨id,[a]⟩).set q y,jd.out,by rw[YV,YV];exact nL.out,rfl,rfl,rfl⟩ (wf (hh:=(by simp only[List.map_set,ab];rfl)) (hb:=cI) (hbh:=cI));have:=hm.out;have:=h0.out;omega
     |false=>
      have he:=y7 tX.out dP.out (fun z _ hz=>by
       rw[hy.out]at hz;rw[←XX.inj hz];have h1:=RB.out y (Xl hy.out);have h2:=of_decide_eq_false b5;show y.id < id;omega)
      rw[←he]at fI;have jV:=fI.out;rw[jV];replace jV:=Xj jV;replace he:=Xj he;have z1z:=@ci.eq_1;refine am ?_<;>intros;all_goals(simp only[al,aU,Xo,Xm];exact dg)
    ·have Rz:decide ((q:Int)>0)=false:=by simp;omega
     have he:=y7 tX.out dP.out (fun z h _=>absurd h h0);rw[←he]at fI;have jV:=fI.out;rw[jV];replace jV:=Xj jV;replace he:=Xj he;replace h0:=Xj h0;have po:q < out.length:=by omega
     replace nL:=Xj nL;have z1z:=@ci.eq_1;refine am ?_<;>intros;all_goals(simp only[al,aU,Xo,Xm];exact dg)
 ·have h1:(bN v !=0)=true:=by simpa using hc
  have hr:R=(Vpc.zero,0,bN v):=by rw[hR.out];unfold gA;rw[if_pos hc]
  rw[hr];replace hr:=Xj hr;clear hR;refine pj func173 ntmps173 results173 ?_;refine am ?_<;>intros;exact dg
theorem QD (v:Vpc)(pre post:List Sbn)(s0:Sbn)(preF postF:List Fce)(f0:Fce)(hv:v.subs=pre++s0::post)(xQ:s0.faces=preF++f0::postF)(h4:v.ranges.length≤4)(h6:v.subs.length≤6)(h8:∀s∈v.subs,s.faces.length≤8∧∀f∈s.faces,f.addrs.length≤4):
 MSpec prog 44 [.d (.agg (al v))] [] (.agg [.d (.v (.int .i64 v.id)),.own 2 1,.own 4 v.subs.length]) [.gone,.gone,.row 58 3 1 (ab (v.ranges.map bv)),.gone,.row 71 4 v.subs.length (eR aU pre (ci s0 (.own 6 s0.faces.length)) post),.gone,.row 74 2 s0.faces.length (eR cl preF (d6 f0 (.own 8 1)) postF),.gone,.row 3 1 1 (ab (f0.addrs.map cD))]:=by
 replace h8:=Xj h8;have bT:v.subs.length=pre.length+1+post.length:=by rw[hv];simp;omega
 have hL:=Xj hv;have bU:=Xj bT;clear hv bT;have DF:s0.faces.length=preF.length+1+postF.length:=by rw[xQ];simp;omega
 have Rs:=Xj xQ;have gD:=Xj DF;clear xQ DF;refine mj func44 ntmps44 results44 ?_;refine am ?_<;>intros;refine bL ae ak (fun m e h=>(∃k,k≤pre.length∧m=v.subs.length - k∧e=[(4,.d (.v (.int .i64 k))),(3,.ptr 3 0),(2,.ptr 1 0),(1,.ptr 0 0)]∧h=[.box 55 ((al v).map .d),.box 55 [.d (.v (.int .i64 0)),.d (.v (.slice none 0 0)),.d (.v (.slice none 0 0))],.row 58 3 1 (ab (v.ranges.map bv)),.box 55 [.d (.v (.int .i64 v.id)),.own 2 1,.own 4 k],.row 71 4 k (ab ((pre.take k).map aU))])∨
  ∃k j,k=pre.length+1+j∧j≤post.length∧m=v.subs.length - k∧e=[(4,.d (.v (.int .i64 k))),(3,.ptr 3 0),(2,.ptr 1 0),(1,.ptr 0 0)]∧h=[.box 55 ((al v).map .d),.box 55 [.d (.v (.int .i64 0)),.d (.v (.slice none 0 0)),.d (.v (.slice none 0 0))],.row 58 3 1 (ab (v.ranges.map bv)),.box 55 [.d (.v (.int .i64 v.id)),.own 2 1,.own 4 k],.row 71 4 k (eR aU pre (ci s0 (.own 6 s0.faces.length)) (post.take j)),.gone,.row 74 2 s0.faces.length (eR cl preF (d6 f0 (.own 8 1)) postF),.gone,.row 3 1 1 (ab (f0.addrs.map cD))]) _ _ _ (.inl ⟨0,XD _,rfl,rfl,rfl⟩) ?_ ?_
 ·refine(au (by simp) 3 55 [.d (.v (.int .i64 v.id)),.own 2 1,.d (.v (.slice none 0 0))] 2 71 4 rfl rfl rfl).trans ?_;exact wf (hb:=cI) (hbh:=cI)
 ·rintro m e h (⟨k,hk,hm,rfl,rfl⟩|⟨k,q,AI,hj,hm,rfl,rfl⟩) CO sX
  ·have dH:(k:Int) < (v.subs.length:Int):=by have:=bU.out;omega
   have cM:=wi k (by omega);have i7:k+1≤100:=by have:=bU.out;omega
   have i4:(Yf k pre).length=k:=by rw[Xp];omega
   have hm:=Xj hm;by_cases lK:k < pre.length
   ·obtain⟨s,hq⟩:∃s,pre[k]? =some s:=⟨_,Xk lK⟩;have hs:v.subs[k]? =some s:=by rw[hL.out,X4 lK];exact hq
    have iH:=h8.out s (Xl hs);replace hs:=Xj hs;replace hq:=Xj hq;have lh:=hs.out;refine am ?_<;>intros;refine bg ae ak s.faces (fun _=>True) (fun j=>[(6,.d (.v (.int .i64 j))),(5,.ptr 5 0),(4,.d (.v (.int .i64 k))),(3,.ptr 3 0),(2,.ptr 1 0),(1,.ptr 0 0)])
     (fun j=>[.box 55 ((al v).map .d),.box 55 [.d (.v (.int .i64 0)),.d (.v (.slice none 0 0)),.d (.v (.slice none 0 0))],.row 58 3 1 (ab (v.ranges.map bv)),.box 55 [.d (.v (.int .i64 v.id)),.own 2 1,.own 4 k],.row 71 4 k (ab ((pre.take k).map aU)),.box 71 [.d (.v (.int .i64 s.id)),.d (.v (.int .i64 s.at_.at_)),.d (.v (.int .i64 s.at_.len)),.own 6 j],.row 74 2 j (ab ((s.faces.take j).map cl))]) trivial ?_ ?_ ?_
    ·refine(au (by simp) 5 71 [.d (.v (.int .i64 s.id)),.d (.v (.int .i64 s.at_.at_)),.d (.v (.int .i64 s.at_.len)),.d (.v (.slice none 0 0))] 3 74 2 rfl rfl rfl).trans ?_;exact wf (hb:=cI) (hbh:=cI)
    ·intro j f hf hj _ C hC;have ic:(j:Int) < (s.faces.length:Int):=by omega
     have j6:=wi j (by omega);have gS:=iH.2 f (Xl hf);have jd:j+1≤100:=by omega
     have pf:(Yf j s.faces).length=j:=by rw[Xp];omega
     replace hf:=Xj hf;have zj:=hf.out;refine am ?_<;>intros;refine hC _ _ trivial ((ap 8 1 3 1 (f.addrs.map cD) rfl).trans ?_);simp only[iu,fz,gr,f7,gV,f5,aR,bR,bW,Xm,Xu,XM,XL,reduceIte,and_true,true_and,and_self,and_false,false_and,XG,XW,reduceCtorEq,cV];exact wf (hh:=(by rw[ag hf.out,Xo,Xm,Xu,←aI];rfl)) (hb:=cI) (hbh:=cI)
    ·intro _ C;refine am ?_<;>intros;refine sX _ _ _ _ _ ?_ (.inl ⟨k+1,lK,rfl,rfl,rfl⟩) ((ap 6 s.faces.length 74 2 (s.faces.map cl) rfl).trans ?_)
     ·have:=hm.out;have:=bU.out;omega
     simp only[iu,fz,gr,f7,gV,f5,aR,bR,bW,Xm,Xu,XM,XL,reduceIte,and_true,true_and,and_self,and_false,false_and,XG,XW,reduceCtorEq];exact wf (hh:=(by rw[ag hq.out,Xo,Xm,Xu,←aI];rfl)) (hb:=cI) (hbh:=cI)
   ·obtain rfl:k=pre.length:=by omega
    have hs:v.subs[pre.length]? =some s0:=by rw[hL.out,XK (XB _),YG];rfl
    have iH:=h8.out s0 (Xl hs);replace hs:=Xj hs;have lh:=hs.out;obtain⟨k,iV⟩:∃k,k=pre.length:=⟨_,rfl⟩;rw[←iV]at lh dH cM i7 i4 sX ⊢;rw[iV,Xt]at i4;replace iV:=Xj iV;refine am ?_<;>intros;refine bL ae ak (fun m e h=>(∃j,j≤preF.length∧m=s0.faces.length - j∧e=[(6,.d (.v (.int .i64 j))),(5,.ptr 5 0),(4,.d (.v (.int .i64 k))),(3,.ptr 3 0),(2,.ptr 1 0),(1,.ptr 0 0)]∧
     h=[.box 55 ((al v).map .d),.box 55 [.d (.v (.int .i64 0)),.d (.v (.slice none 0 0)),.d (.v (.slice none 0 0))],.row 58 3 1 (ab (v.ranges.map bv)),.box 55 [.d (.v (.int .i64 v.id)),.own 2 1,.own 4 k],.row 71 4 k (ab ((pre.take k).map aU)),.box 71 [.d (.v (.int .i64 s0.id)),.d (.v (.int .i64 s0.at_.at_)),.d (.v (.int .i64 s0.at_.len)),.own 6 j],.row 74 2 j (ab ((preF.take j).map cl))])∨
     ∃j i,j=preF.length+1+i∧i≤postF.length∧m=s0.faces.length - j∧e=[(6,.d (.v (.int .i64 j))),(5,.ptr 5 0),(4,.d (.v (.int .i64 k))),(3,.ptr 3 0),(2,.ptr 1 0),(1,.ptr 0 0)]∧
      h=[.box 55 ((al v).map .d),.box 55 [.d (.v (.int .i64 0)),.d (.v (.slice none 0 0)),.d (.v (.slice none 0 0))],.row 58 3 1 (ab (v.ranges.map bv)),.box 55 [.d (.v (.int .i64 v.id)),.own 2 1,.own 4 k],.row 71 4 k (ab ((pre.take k).map aU)),.box 71 [.d (.v (.int .i64 s0.id)),.d (.v (.int .i64 s0.at_.at_)),.d (.v (.int .i64 s0.at_.len)),.own 6 j],.row 74 2 j (eR cl preF (d6 f0 (.own 8 1)) (postF.take i)),.gone,.row 3 1 1 (ab (f0.addrs.map cD))]) _ _ _ (.inl ⟨0,XD _,rfl,rfl,rfl⟩) ?_ ?_
    ·refine(au (by simp) 5 71 [.d (.v (.int .i64 s0.id)),.d (.v (.int .i64 s0.at_.at_)),.d (.v (.int .i64 s0.at_.len)),.d (.v (.slice none 0 0))] 3 74 2 rfl rfl rfl).trans ?_;exact wf (hb:=cI) (hbh:=cI)
    ·rintro m2 e h (⟨j,hj,gT,rfl,rfl⟩|⟨j,i,jW,hi,gT,rfl,rfl⟩) C hC
     ·have ic:(j:Int) < (s0.faces.length:Int):=by have:=gD.out;omega
      have j6:IntKind.i64.wrap ((j:Int)+1)=((j+1:Nat):Int):=by rw[IntKind.wrap_i64];have:=iH.1;omega
      have jd:j+1≤100:=by have:=iH.1;omega
      have pf:(Yf j preF).length=j:=by rw[Xp];omega
      have gT:=Xj gT;by_cases w8:j < preF.length
      ·obtain⟨f,hq⟩:∃f,preF[j]? =some f:=⟨_,Xk w8⟩;have hf:s0.faces[j]? =some f:=by rw[Rs.out,X4 w8];exact hq
       have gS:=iH.2 f (Xl hf);replace hf:=Xj hf;replace hq:=Xj hq;have zj:=hf.out;refine am ?_<;>intros;refine hC _ _ _ _ _ ?_ (.inl ⟨j+1,w8,rfl,rfl,rfl⟩) ((ap 8 1 3 1 (f.addrs.map cD) rfl).trans ?_)
       ·have:=gT.out;have:=gD.out;omega
       simp only[iu,fz,gr,f7,gV,f5,aR,bR,bW,Xm,Xu,XM,XL,reduceIte,and_true,true_and,and_self,and_false,false_and,XG,XW,reduceCtorEq,cV];exact wf (hh:=(by rw[ag hq.out,Xo,Xm,Xu,←aI];rfl)) (hb:=cI) (hbh:=cI)
      ·obtain rfl:j=preF.length:=by omega
       have hf:s0.faces[preF.length]? =some f0:=by rw[Rs.out,XK (XB _),YG];rfl
       have gS:=iH.2 f0 (Xl hf);replace hf:=Xj hf;have zj:=hf.out;refine am ?_<;>intros;refine hC _ _ _ _ _ ?_ (.inr ⟨preF.length+1,0,rfl,XD _,rfl,rfl,rfl⟩) ((aL 7 (by simp)).trans ?_)
       ·have:=gT.out;have:=gD.out;omega
       exact wf (hb:=cI) (hbh:=cI)
     ·have gT:=Xj gT;have At:=Xj jW;have jd:preF.length+1+i+1≤100:=by have:=gD.out;have:=iH.1;omega
      have Ve:(Yf i postF).length=i:=by rw[Xp];omega
      have L8:j≤s0.faces.length:=by have:=gD.out;omega
      by_cases Tv:i < postF.length
      ·obtain⟨f,hq⟩:∃f,postF[i]? =some f:=⟨_,Xk Tv⟩;have hf:s0.faces[j]? =some f:=by
        rw[Rs.out,XK (by omega),show j - preF.length=i+1 by omega,Yw];exact hq
       have gS:=iH.2 f (Xl hf);have ic:(j:Int) < (s0.faces.length:Int):=by have:=gD.out;omega
       have j6:IntKind.i64.wrap ((j:Int)+1)=((j+1:Nat):Int):=by rw[IntKind.wrap_i64];have:=iH.1;omega
       replace hf:=Xj hf;replace hq:=Xj hq;have zj:=hf.out;clear jW;refine am ?_<;>intros;refine hC _ _ _ _ _ ?_ (.inr ⟨j+1,i+1,by have:=At.out;omega,Tv,rfl,rfl,rfl⟩) ((ap 10 1 3 1 (f.addrs.map cD) rfl).trans ?_)
       ·have:=gT.out;have:=gD.out;have:=At.out;omega
       simp only[iu,fz,gr,f7,gV,f5,aR,bR,bW,Xm,Xu,XM,XL,reduceIte,and_true,true_and,and_self,and_false,false_and,XG,XW,reduceCtorEq,cV,d6];exact wf (hh:=(by rw[ag hq.out,←kD];rfl)) (hb:=cI) (hbh:=cI)
      ·obtain rfl:i=postF.length:=by omega
       obtain rfl:j=s0.faces.length:=by have:=gD.out;omega
       clear jW;have Rr:(Yf k pre).length=k:=by rw[iV.out,Xt]
       refine am ?_<;>intros;refine sX _ _ _ _ _ ?_ (.inr ⟨k+1,0,by rw[iV.out],XD _,rfl,rfl,rfl⟩) ((aL 5 (by simp)).trans ?_)
       ·have:=hm.out;have:=bU.out;have:=iV.out;omega
       exact wf (hh:=(by rw[iV.out,Xt];rfl)) (hb:=cI) (hbh:=cI)
  ·have hm:=Xj hm;have rP:=Xj AI;have i7:pre.length+1+q+1≤100:=by have:=bU.out;omega
   have i4:(Yf q post).length=q:=by rw[Xp];omega
   have uw:k≤v.subs.length:=by have:=bU.out;omega
   by_cases w8:q < post.length
   ·obtain⟨s,hq⟩:∃s,post[q]? =some s:=⟨_,Xk w8⟩;have hs:v.subs[k]? =some s:=by
     rw[hL.out,XK (by omega),show k - pre.length=q+1 by omega,Yw];exact hq
    have iH:=h8.out s (Xl hs);have dH:(k:Int) < (v.subs.length:Int):=by have:=bU.out;omega
    have cM:=wi k (by omega);replace hq:=Xj hq;replace hs:=Xj hs;have lh:=hs.out;clear AI;refine am ?_<;>intros;refine bg ae ak s.faces (fun _=>True) (fun j=>[(6,.d (.v (.int .i64 j))),(5,.ptr 9 0),(4,.d (.v (.int .i64 k))),(3,.ptr 3 0),(2,.ptr 1 0),(1,.ptr 0 0)])
     (fun j=>[.box 55 ((al v).map .d),.box 55 [.d (.v (.int .i64 0)),.d (.v (.slice none 0 0)),.d (.v (.slice none 0 0))],.row 58 3 1 (ab (v.ranges.map bv)),.box 55 [.d (.v (.int .i64 v.id)),.own 2 1,.own 4 k],.row 71 4 k (eR aU pre (ci s0 (.own 6 s0.faces.length)) (post.take q)),.gone,.row 74 2 s0.faces.length (eR cl preF (d6 f0 (.own 8 1)) postF),.gone,.row 3 1 1 (ab (f0.addrs.map cD)),.box 71 [.d (.v (.int .i64 s.id)),.d (.v (.int .i64 s.at_.at_)),.d (.v (.int .i64 s.at_.len)),.own 10 j],.row 74 2 j (ab ((s.faces.take j).map cl))]) trivial ?_ ?_ ?_
    ·refine(au (by simp) 9 71 [.d (.v (.int .i64 s.id)),.d (.v (.int .i64 s.at_.at_)),.d (.v (.int .i64 s.at_.len)),.d (.v (.slice none 0 0))] 3 74 2 rfl rfl rfl).trans ?_;exact wf (hb:=cI) (hbh:=cI)
    ·intro j f hf hj _ C hC;have ic:(j:Int) < (s.faces.length:Int):=by omega
     have j6:=wi j (by omega);have gS:=iH.2 f (Xl hf);have jd:j+1≤100:=by omega
     have pf:(Yf j s.faces).length=j:=by rw[Xp];omega
     replace hf:=Xj hf;have zj:=hf.out;refine am ?_<;>intros;refine hC _ _ trivial ((ap 12 1 3 1 (f.addrs.map cD) rfl).trans ?_);simp only[iu,fz,gr,f7,gV,f5,aR,bR,bW,Xm,Xu,XM,XL,reduceIte,and_true,true_and,and_self,and_false,false_and,XG,XW,reduceCtorEq,cV];exact wf (hh:=(by rw[ag hf.out,Xo,Xm,Xu,←aI];rfl)) (hb:=cI) (hbh:=cI)
    ·intro _ C;refine am ?_<;>intros;refine sX _ _ _ _ _ ?_ (.inr ⟨k+1,q+1,by have:=rP.out;omega,w8,rfl,rfl,rfl⟩) ((ap 10 s.faces.length 74 2 (s.faces.map cl) rfl).trans ?_)
     ·have:=hm.out;have:=bU.out;have:=rP.out;omega
     simp only[iu,fz,gr,f7,gV,f5,aR,bR,bW,Xm,Xu,XM,XL,reduceIte,and_true,true_and,and_self,and_false,false_and,XG,XW,reduceCtorEq,cV,ci];exact wf (hh:=(by rw[ag hq.out,←kD];rfl)) (hb:=cI) (hbh:=cI)
   ·obtain rfl:q=post.length:=by omega
    obtain rfl:k=v.subs.length:=by have:=bU.out;omega
    clear AI;refine am ?_<;>intros;(try rw[Xt])
    refine(aL 0 (by simp)).trans ?_;refine(aL 1 (by simp[bw])).trans ?_;exact(aL 3 (by simp[bw])).trans (bo rfl rfl)
theorem Dc {α:Type}{enc:α→List D}{l:List α}{i:Nat}(hi:i < l.length):(ay (ab (l.map enc)) i (Yf (l.length - (i+1)) (_j (i+1) (ab (l.map enc))))).length=l.length:=by
 have:=lA (ab (l.map enc)) i (i+1) l.length (by rw[aF,XC];exact hi) rfl (by rw[aF,XC]);rw[aF,XC]at this;exact this
theorem Dd {α:Type}{enc:α→List D}{l:List α}{i:Nat}(hi:i < l.length):Yf (i+(l.length - (i+1))) (ay (ab (l.map enc)) i (Yf (l.length - (i+1)) (_j (i+1) (ab (l.map enc)))))=ab ((l.eraseIdx i).map enc):=by
 have hL:(ab (l.map enc)).length=l.length:=by rw[aF,XC]
 have e1:ab ((l.eraseIdx i).map enc)=(ab (l.map enc)).eraseIdx i:=by rw[fU];exact fU _ _ _
 rw[e1];generalize ab (l.map enc)=L at*;have e2:Yf (l.length - (i+1)) (_j (i+1) L)=_j (i+1) L:=XN (by rw[XI];omega);rw[e2];unfold ay;rw[X3,List.take_append,List.take_take,Xp];rw[show min (i+(l.length - (i+1))) i=i by omega,show min i L.length=i by omega,show i+(l.length - (i+1)) - i=(_j (i+1) L).length by rw[XI];omega];rw[List.take_left',YK];rfl
theorem E5 (v:Vpc)(id:Int)(hl:v.subs.length≤9223372036854775807)(hf:∀s∈v.subs,s.faces.length≤9223372036854775807):af prog 172 [.agg (al v),.v (.int .i64 id)] (.tup [.agg (al (fk v id).1),.v (.int .i64 (fk v id).2)]):=by
 obtain⟨R,hR⟩:∃R,R=fk v id:=⟨_,rfl⟩;rw[←hR];replace hR:=Xj hR;have bc:=gy v hl hf;clear hl hf;by_cases hc:bN v=0
 ·have hk:=aY hc;have IT:=hk.n4;have DN:=hk.n6;have gk:=wl v hk.n4 hk.n6 hk.n8;have cY:=uv v id (by omega);unfold cv at cY
  have aP:=hR.out;unfold fk at aP;rw[if_neg (by simpa using hc)]at aP;rw[hc]at bc;clear hR hc;cases hf:v.subs.findIdx? (fun s=>s.id==id)with
  |none=>
   rw[hf]at cY aP;simp only at cY aP;have ud:decide ((-1:Int) < 0)=true:=rfl;rw[aP];replace aP:=Xj aP;clear hk hf;refine pj func172 ntmps172 results172 ?_;refine am ?_<;>intros;all_goals exact dg
  |some i=>
   obtain⟨s,hs⟩:∃s,v.subs[i]? =some s:=⟨_,Xk (XH.1 hf).1⟩;have hi:=(XH.1 hf).1;rw[hf]at cY aP;simp only[hs,Ye,ne_eq,XX.injEq]at cY aP;have jU:decide ((i:Int) < 0)=false:=by simp
   have o9:=(hk.n8 s (Xl hs)).1;clear hk hf;by_cases h0:s.faces.length=0
   ·rw[if_neg (by simpa using h0)]at aP;have hd:decide ((s.faces.length:Int)>0)=false:=by simp[h0]
    have cM:=wi i (by omega);have h0i:(0:Int)≤(i:Int):=by omega
    have a0i:(i:Int)≤(v.subs.length:Int):=by omega
    have WC:((i+1:Nat):Int)≤(v.subs.length:Int):=by omega
    have bB:¬ab (v.subs.map aU)=[]:=by
     intro h;have:=congrArg I' h;rw[aF,XC,XZ]at this;omega
    have nj:=Dc (enc:=aU) hi;have lL:=Dd (enc:=aU) hi;have IP:0 < v.subs.length:=by omega
    have DC:min (v.subs.length - (i+1)) (v.subs.length - (i+1))=v.subs.length - (i+1):=Zq _;have hlt:i+(v.subs.length - (i+1))≤v.subs.length:=by omega
    rw[aP];replace aP:=Xj aP;replace h0:=Xj h0;refine pj func172 ntmps172 results172 ?_;repeat' (first|(with_reducible refine And.intro ?_ ?_)|(with_reducible refine cm (fun _=>?_) (fun _=>?_))|(with_reducible refine aA (fun _=>?_) (fun _=>?_))|(with_reducible refine be (by kernel_rfl))|simp -dsimp only[go_sem,seval, *,al,aU,jU,hs,hd,cM,bB,nj,lL,IP,Yo,Xp,XI,undef]|((with_reducible refine bf ?_);simp -dsimp only[go_sem,seval,al,aU,jU,hs,hd,cM,bB,nj,lL,IP,Yo,Xp,XI,undef];first|refine aC (by first|assumption|exact bc|exact cY) (by first|exact .inl rfl|exact .inr rfl) ?_|(refine aB (by assumption) ?_ ?_ ?_;(solve|(repeat(first|exact ai.refl _|exact ai.nil _|(refine ai.tup ?_)|(refine ai.agg ?_ rfl)|exact trivial|(refine And.intro ?_ ?_))));(solve|exact .inl rfl|exact .inr rfl)))|(refine aX [] (gk) ?_ ?_ ?_ ?_ ?_ ?_;(solve|rfl|simp only[go_sem,seval,al]);(solve|rfl);(solve|decide);(solve|simp);(solve|simp only[go_sem,seval,ax,al]))|omega|exact decide_eq_true (by omega)|exact ai.refl _)
    all_goals exact dg
   ·rw[if_pos (by simpa using h0)]at aP;have hd:decide ((s.faces.length:Int)>0)=true:=by simp;omega
    rw[aP];replace aP:=Xj aP;refine pj func172 ntmps172 results172 ?_;refine am ?_<;>intros;all_goals exact dg
 ·have h1:(bN v !=0)=true:=by simpa using hc
  have hr:R=(Vpc.zero,bN v):=by rw[hR.out];unfold fk;rw[if_pos hc]
  rw[hr];replace hr:=Xj hr;clear hR;refine pj func172 ntmps172 results172 ?_;refine am ?_<;>intros;exact dg
theorem De (v:Vpc)(sub id:Int)(hl:v.subs.length≤9223372036854775807)(hf:∀s∈v.subs,s.faces.length≤9223372036854775807):af prog 175 [.agg (al v),.v (.int .i64 sub),.v (.int .i64 id)] (.tup [.agg (al (dU v sub id).1),.v (.int .i64 (dU v sub id).2)]):=by
 obtain⟨R,hR⟩:∃R,R=dU v sub id:=⟨_,rfl⟩;rw[←hR];replace hR:=Xj hR;have bc:=gy v hl hf;clear hl hf;by_cases hc:bN v=0
 ·have hk:=aY hc;have IT:=hk.n4;have DN:=hk.n6;have cY:=uv v sub (by omega);unfold cv at cY
  have aP:=hR.out;unfold dU at aP;rw[if_neg (by simpa using hc)]at aP;rw[hc]at bc;clear hR hc;have ud:decide ((-1:Int) < 0)=true:=rfl;cases hf:v.subs.findIdx? (fun s=>s.id==sub)with
  |none=>
   rw[hf]at cY aP;simp only at cY aP;rw[aP];replace aP:=Xj aP;clear hk hf;refine pj func175 ntmps175 results175 ?_;refine am ?_<;>intros;all_goals exact dg
  |some i=>
   obtain⟨pre,s,post,hv,iG,-,hs⟩:=fH hf;have iH:=hk.n8 s (Xl hs);have gk:=LO v pre post s hv hk.n4 hk.n6 hk.n8;have jY:=wC s id (by omega);unfold cv at jY;have jU:decide ((i:Int) < 0)=false:=by simp
   have o9:v.subs.length=pre.length+1+post.length:=by rw[hv];simp;omega
   rw[hf]at cY aP;simp only[hs]at cY aP;clear hk hf;cases hg:s.faces.findIdx? (fun f=>f.id==id)with
   |none=>
    rw[hg]at jY aP;simp only at jY aP;rw[aP];replace aP:=Xj aP;clear gk;replace hv:=Xj hv;clear hg iG o9;refine pj func175 ntmps175 results175 ?_;refine am ?_<;>intros;all_goals exact dg
   |some k=>
    have uw:k < s.faces.length:=(XH.1 hg).1;rw[hg]at jY aP;simp only at jY aP;rw[show v.subs.set i {s with faces:=s.faces.eraseIdx k}=pre++{s with faces:=s.faces.eraseIdx k}::post by
     rw[hv,←iG,Yt _ _ (XB _),YG,Xv]]at aP
    have hk0:decide ((k:Int) < 0)=false:=by simp
    have cM:=wi k (by omega);have bB:¬ab (s.faces.map cl)=[]:=by
     intro h;have:=congrArg I' h;rw[aF,XC,XZ]at this;omega
    have nj:=Dc (enc:=cl) uw;have lL:=Dd (enc:=cl) uw;have IP:0 < s.faces.length:=by omega
    have DC:min (s.faces.length - (k+1)) (s.faces.length - (k+1))=s.faces.length - (k+1):=Zq _;have hlt:k+(s.faces.length - (k+1))≤s.faces.length:=by omega
    rw[aP];replace aP:=Xj aP;replace hv:=Xj hv;subst iG;clear hg;refine pj func175 ntmps175 results175 ?_;repeat' (first|(with_reducible refine And.intro ?_ ?_)|(with_reducible refine cm (fun _=>?_) (fun _=>?_))|(with_reducible refine aA (fun _=>?_) (fun _=>?_))|(with_reducible refine be (by kernel_rfl))|simp -dsimp only[go_sem,seval, *,al,aU,ci,iy,qY,BY,qX,mV,jU,hk0,hs,cM,bB,nj,lL,IP,Yo,Xp,XI,undef]|((with_reducible refine bf ?_);simp -dsimp only[go_sem,seval,al,aU,ci,iy,qY,BY,qX,mV,jU,hk0,hs,cM,bB,nj,lL,IP,Yo,Xp,XI,undef];first|refine aC (by first|assumption|exact bc|exact cY|exact jY) (by first|exact .inl rfl|exact .inr rfl) ?_|(refine aB (by assumption) ?_ ?_ ?_;(solve|(repeat(first|exact ai.refl _|exact ai.nil _|(refine ai.tup ?_)|(refine ai.agg ?_ rfl)|exact trivial|(refine And.intro ?_ ?_))));(solve|exact .inl rfl|exact .inr rfl)))|(refine aX [] (gk) ?_ ?_ ?_ ?_ ?_ ?_;(solve|rfl|simp only[go_sem,seval,al,ci,iy]);(solve|rfl);(solve|decide);(solve|simp);(solve|simp only[go_sem,seval,ax,al,ci,iy]))|omega|exact decide_eq_true (by omega)|exact ai.refl _)
    all_goals(first|omega|(simp only[al,aU,Xo,Xm];exact dg))
 ·have h1:(bN v !=0)=true:=by simpa using hc
  have hr:R=(Vpc.zero,bN v):=by rw[hR.out];unfold dU;rw[if_pos hc]
  rw[hr];replace hr:=Xj hr;clear hR;refine pj func175 ntmps175 results175 ?_;refine am ?_<;>intros;exact dg
end Go.Proofs.YtmicljipaiohkaaGreat
