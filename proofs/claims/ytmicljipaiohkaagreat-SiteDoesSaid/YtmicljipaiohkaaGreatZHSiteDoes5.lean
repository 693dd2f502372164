/- Texts of this work, joined. -/
import Derived.Test.YtmicljipaiohkaaGreatZHSiteDoes4
set_option linter.unusedSimpArgs false
set_option linter.unusedVariables false
set_option maxRecDepth 100000
set_option maxHeartbeats 16000000
namespace Go.Proofs.YtmicljipaiohkaaGreat
open Go Go.RowKit Go.Proofs.Tryz
open Go.Lib renaming hid → Xj
open _root_.List renaming getElem?_eq_getElem → Xk, mem_of_getElem? → Xl, map_cons → Xm, getElem?_eq_some_iff → Xn, map_append → Xo, setIfInBounds_toArray → Xp, length_take → Xq, take_length → Xt, set_cons_zero → Xu, map_nil → Xv, set_cons_succ → Xx, getElem?_map → Xz, length_cons → XA, all_eq_true → XC, length_map → XD, pairwise_iff_getElem → XF, getElem?_append_right → XH, findIdx?_eq_some_iff_getElem → XI, length_drop → XJ, getD_eq_getElem?_getD → XK, take_of_length_le → XN, mem_map → XQ, getElem?_take_of_lt → XS, getElem?_eq_none → XT, any_eq_true → XU, replicate → XV, length_append → XY, length_nil → XZ, mem_iff_getElem → X0, getElem?_append_left → X2, mem_append → X3, append_assoc → X4, range → X5, mem_cons → X7, cons_append → X8, eq_nil_of_length_eq_zero → X9, nil_append → Ya, getElem_of_mem → Yb, mem_singleton → Yc, mem_of_mem_drop → Yd, mem_of_mem_take → Yf, take → Yg, any_eq_false → Yh, ext_getElem? → Yj, getElem?_drop → Yk, take_append_of_le_length → Yl, getElem_mem → Ym, findIdx?_eq_none_iff → Yn, find?_eq_none → Yq, set_append_right → Yu, append_nil → Yw, getElem?_cons_succ → Yx, pairwise_cons → YC, mem_of_find?_eq_some → YF, size_toArray → YH, eraseIdx_eq_take_drop_succ → YK, foldl_cons → YO, drop_eq_getElem_cons → YQ, mem_range → YR, pairwise_append → YT, length_set → YV, filter_append → YW, take_append_drop → YX, filter_eq_self → Y0, toList_toArray → Y1, all_eq_false → Y2, pairwise_map → Y3, mem_or_eq_of_mem_set → Y4, drop_length → Y7, mem_map_of_mem → Y8, length_filter_le → Za, mem_cons_of_mem → Zc, length_pos_iff → Zd, mem_iff_getElem? → Ze, find?_some → Zh, filter_filter → Zi, getElem?_take → Zj, foldl_append → Zn, flatMap_append → Zs, mem_filter → Zt, filter_cons → Zu, getElem_take → ZA, map_take → ZH, contains_iff_mem → ZL, all_append → ZO, getElem?_replicate → ZX, mem_flatMap → ZY, getElem_cons_drop → ZZ, filter_congr → Z2, getElem?_set → Z3, take_zero → Z4, getElem?_set_ne → Z7, length_eraseIdx → Z8, mem_cons_self → F', length → I', nodup_append → N', take_sublist → O', drop → _j
open Go.World renaming size_alloc → Xr, heap_drewN → Xs, size_drew → Xw, cell? → YS, cell?_of_block → Zl, setRow → ZE
open _root_.Bool renaming and_eq_true → Xy, eq_iff_iff → Yi, and_self → Yp, true_and → Yr, and_true → YA, false_eq_true → YB, eq_false_iff → YE, or_eq_false_iff → Zm, not_eq_true' → Zz, not_eq_true → ZI, and_eq_false_iff → ZK, false_or → ZT, not_true → Z0, and_assoc → P'
open _root_.Nat renaming le_refl → XB, zero_le → XE, zero_add → XG, reduceEqDiff → XL, reduceAdd → XM, lt_or_ge → XP, add_zero → XW, sub_zero → Yo, mul_le_mul_right → Yt, lt_of_lt_of_le → Yy, le_trans → Yz, sub_self → YG, not_lt_zero → YJ, lt_trichotomy → Zb, min_self → Zq, add_assoc → ZF, eq_zero_or_pos → ZJ, min → ZM, add_mul → ZQ, reduceLT → ZR, min_def → Z6, le_of_lt → p', lt_or_eq_of_le → G', lt_or_gt_of_ne → H', le_of_lt_succ → Q', mul_one → X', one_le_two_pow → Z', not_lt → _g
open _root_.Option renaming map_eq_some_iff → XO, isSome_some → XR, some → XX, map_some → Ye, getD_some → YI, isSome_none → YZ, isSome_iff_exists → Zf, map_none → Zg, toList_some → _a
open _root_.Array renaming getElem?_toList → X6, getElem?_eq_some_iff → Ys, getElem?_eq_none → YM, replicate → Y5, getElem?_modify → Y9
open _root_.Int renaming dvd_of_emod_eq_zero → YL, lt_irrefl → YN, emod_eq_zero_of_dvd → ZB, le_refl → ZG, fdiv_eq_ediv_of_nonneg → Z5, lt_or_le → z', dvd_trans → C', max_eq_right → _e, max_eq_left → _i
theorem o7 {v:Vpc}(hk:VpcOK v){s:Sbn}(hs:s∈v.subs):s.at_.right=true∧(s.faces.flatMap (·.addrs)).Nodup∧(s.faces.Pairwise fun a b=>a.id < b.id)∧∀f∈s.faces,kT s.at_ f=true:=by
 have h:=hk.subs s hs;unfold mq fF dG at h;simp only[Xy,XU,XC,decide_eq_true_eq,f5]at h;obtain⟨-,⟨r,-,hr⟩,h1,h2,h3⟩:=h;exact⟨(fe.1 hr).1,h2,h3,h1⟩
theorem fL {α:Type}{p:α→Bool}{l:List α}{i:Nat}(h:l.findIdx? p=some i):∃pre x post,l=pre++x::post∧pre.length=i∧p x=true∧l[i]? =some x:=by
 obtain⟨hlt,hp,-⟩:=XI.1 h;exact⟨l.take i,l[i],l.drop (i+1),by rw[ZZ,YX],by rw[Xq];omega,hp,Xk hlt⟩
def kC (s:Sbn)(id:Int):Int:=
 if cI id=false then 3 else if (s.faces.any fun f=>f.id==id)=true then 6 else if s.faces.length=8 then 2 else if (eD s).isSome=false then 8 else 0
def gE (v:Vpc)(sub id:Int):Vpc × Int × Int:=
 if bN v≠0 then (Vpc.zero,0,bN v)else
 match v.subs.findIdx? (fun s=>s.id==sub)with
 |none=>(Vpc.zero,0,5)
 |some i=>match v.subs[i]? with
  |none=>(Vpc.zero,0,5)
  |some s=>if kC s id≠0 then (Vpc.zero,0,kC s id)else ({v with subs:=v.subs.set i {s with faces:=di (·.id) ⟨id,[(eD s).getD 0]⟩ s.faces}},(eD s).getD 0,0)
theorem OY (v:Vpc)(sub id:Int):af prog 72 [.agg (al v),.v (.int .i64 sub),.v (.int .i64 id)] (.tup [.agg (al (gE v sub id).1),.v (.int .i64 (gE v sub id).2.1),.v (.int .i64 (gE v sub id).2.2)]):=by
 obtain⟨R,hR⟩:∃R,R=gE v sub id:=⟨_,rfl⟩;rw[←hR];replace hR:=Xj hR;by_cases hc:bN v=0
 ·have hk:=aY hc;have gT:=uF v sub id hk.n6 (fun s hs=>(hk.n8 s hs).1);unfold ws at gT;cases hf:v.subs.findIdx? (fun s=>s.id==sub)with
  |none=>
   have cU:=lg v hc hk.n4 hk.n6 hk.n8;rw[hf]at gT;have hr:R=(Vpc.zero,0,5):=by rw[hR.out];unfold gE;rw[if_neg (by simpa using hc),hf]
   rw[hr];clear hr hR hf hc hk;refine pj func72 ntmps72 results72 ?_;have z1z:=Ln.mk (ls:=[]) (cU);refine am ?_<;>intros;exact dg
  |some i=>
   obtain⟨pre,s,post,hv,iP,-,hs⟩:=fL hf;have lN:=Xl hs;obtain⟨s1,s2,s3,s4⟩:=o7 hk lN;have iO:=hk.n8 s lN;have cU:=wn v pre post s hv hc hk.n4 hk.n6 hk.n8;have hle:=GK s iO.1 iO.2 s1 s2;have hid:=kR id;have iy:=fO (fun f=>f.id==id) s.faces;have j4:decide ((i:Int) < 0)=false:=by simp
   have aP:R=if kC s id≠0 then (Vpc.zero,0,kC s id)else ({v with subs:=pre++{s with faces:=di (·.id) ⟨id,[(eD s).getD 0]⟩ s.faces}::post},(eD s).getD 0,0):=by
    rw[hR.out];unfold gE;rw[if_neg (by simpa using hc),hf];simp only;rw[hs];simp only;rw[hv,←iP,Yu _ _ (XB _),YG,Xu]
   rw[hf]at gT;simp only at gT;unfold sQ at gT;rw[hs]at gT;simp only[al,hv,Xo,Xm,aT]at gT;have ph:v.subs.length=pre.length+1+post.length:=by rw[hv];simp;omega
   subst iP;simp only[aT]at hle;by_cases bI:kC s id≠0
   ·rw[if_pos bI]at aP;unfold kC at aP bI;generalize cI id=I at*;generalize cz (fun f=>f.id==id) s.faces=IX at*;generalize (s.faces.any fun f=>f.id==id)=M at*;generalize eD s=LS at*;have JD:((s.faces.length:Int)==8)=decide (s.faces.length=8):=by rw[Yi];simp;omega
    replace aP:=Xj aP;replace bI:=Xj bI;clear hR hc hk hf hs lN hv;refine pj func72 ntmps72 results72 ?_;repeat' (first|(with_reducible refine And.intro ?_ ?_)|(with_reducible refine cn (fun _=>?_) (fun _=>?_))|(with_reducible refine aA (fun _=>?_) (fun _=>?_))|(with_reducible refine be (by kernel_rfl))|simp -dsimp only[go_sem,seval, *,al,ck,iF,ri,rg,m5,j4,JD,iy]|((with_reducible refine bf ?_);simp -dsimp only[go_sem,seval,al,ck,iF,ri,rg,m5,j4,JD,iy];first|refine aC (by first|assumption|exact gT|exact hid|exact hle) (by first|exact .inl rfl|exact .inr rfl) ?_|(refine aB (by assumption) ?_ ?_ ?_;(solve|(repeat(first|exact ai.refl _|exact ai.nil _|(refine ai.tup ?_)|(refine ai.agg ?_ rfl)|exact trivial|(refine And.intro ?_ ?_))));(solve|exact .inl rfl|exact .inr rfl)))|(refine aX [] (cU) ?_ ?_ ?_ ?_ ?_ ?_;(solve|rfl|simp only[go_sem,seval,al,ck,iF]);(solve|rfl);(solve|decide);(solve|simp);(solve|simp only[go_sem,seval,ax,al,ck,iF]))|omega|exact decide_eq_true (by omega)|exact ai.refl _)
    all_goals
     have h1:=aP.out;have h2:=bI.out;clear gT hid hle cU;first
      |(exfalso;grind)
      |(rw[show R=(Vpc.zero,0,3) from (by rw[h1];grind)];exact dg)
      |(rw[show R=(Vpc.zero,0,6) from (by rw[h1];grind)];exact dg)
      |(rw[show R=(Vpc.zero,0,2) from (by rw[h1];grind)];exact dg)
      |(rw[show R=(Vpc.zero,0,8) from (by rw[h1];grind)];exact dg)
   ·rw[if_neg bI]at aP;have hg:kC s id=0:=by simpa using bI
    obtain⟨g1,g2,g3,g4⟩:cI id=true∧(s.faces.any fun f=>f.id==id)=false∧s.faces.length≠8∧(eD s).isSome=true:=by
     unfold kC at hg;generalize (s.faces.any fun f=>f.id==id)=M at*;grind
    obtain⟨a,ha⟩:=Zf.1 g4;have bB:∀f∈s.faces,f.id≠(⟨id,[a]⟩:Fce).id:=fun f hf=>by have:=Yh.1 g2 f hf;simpa using this
    have nJ:=IA (l:=s.faces++[⟨id,[a]⟩]) (l':=di (·.id) ⟨id,[a]⟩ s.faces) (s.faces.length+1) (by simp) (f6 _ _ _) (gB s3 bB) (by simp;omega);rw[ha]at hle aP;rw[g1]at hid;rw[g2]at iy;simp only[YI,XR]at hle aP;have JD:((s.faces.length:Int)==8)=false:=by simp;omega
    have jf:s.faces.length+1≤100:=by omega
    simp only[Xo,Xm,Xv]at nJ;rw[aP];clear hR aP hc hk bB hg bI hf hs lN hv g4 ha;refine pj func72 ntmps72 results72 ?_;have z1z:=@ck.eq_1;have z2z:=Ln.mk (ls:=[]) (cU);have z3z:=Ln.mk (ls:=[8]) (nJ);refine am ?_<;>intros;all_goals(simp only[al,aT,Xo,Xm];exact dg)
 ·have cU:=lf v hc;have h1:(bN v !=0)=true:=by simpa using hc
  have hr:R=(Vpc.zero,0,bN v):=by rw[hR.out];unfold gE;rw[if_pos hc]
  rw[hr];replace hr:=Xj hr;refine pj func72 ntmps72 results72 ?_;have z1z:=Ln.mk (ls:=[]) (cU);refine am ?_<;>intros;exact dg
section
open Go.Proofs Go.Shelf
theorem xT (F:Array Int)(cur:Array Value)(h:F.size≤cur.size):(Sort.putCells (Value.int .i64) 0 F cur).toList.take F.size=F.toList.map (Value.int .i64)∧(Sort.putCells (Value.int .i64) 0 F cur).size=cur.size:=by
 refine⟨?_,by simp[Sort.putCells]⟩;apply Yj;intro i;by_cases hi:i < F.size
 ·rw[XS hi];have hc:i < cur.size:=by omega
  simp[Sort.putCells,hi,hc]
 ·rw[XT (by rw[Xq];omega),XT (by simp;omega)]
theorem LI {l l':List Int}(hp:l'.Perm l)(hs:l'.Pairwise fun x y=>x < y):(l.mergeSort fun x y=>decide (x≤y))=l':=by
 refine List.Perm.eq_of_pairwise (le:=fun x y:Int=>x≤y) (fun a b _ _ h1 h2=>by omega) ?_ (hs.imp fun h=>by omega) ((List.mergeSort_perm l _).trans hp.symm);have:=List.pairwise_mergeSort (le:=fun x y:Int=>decide (x≤y)) (fun a b c h1 h2=>by simp at*;omega) (fun a b=>by simp;omega) l;exact this.imp fun h=>by simpa using h
theorem IB {P:Program}{ρ:Ren}(L:SlLaysN.n53 P ρ){f E g:Nat}(hf:ρ.f 53=f)(RW:xB P f){l l':List Int}(pM:l≠[])(hp:l'.Perm l)(hs:l'.Pairwise fun x y=>x < y)(cT:l.length≤1000000):
 MSpec P f [.own 0 g] [.row E 1 g (ab (l.map cy))] (.d (.tup [])) [.row E 1 g (ab (l'.map cy))]:=by
 refine⟨RW,XB _,by simp[an,aq],by simp[aH,aQ,az],fun X hP hn hm w c vs hr ly=>?_⟩;have bR:=ly.1;match vs,bR with
 |[v0],_=>
  have r0:=ly.2 0 _ v0 rfl rfl;have bB:ab (l.map cy)≠[]:=by simpa[ab]using pM
  have a9:=hr.chunk 0;have gY:∀m:List Int,(ab (m.map cy)).flatten=m.map fun a=>PV.d (.v (.int .i64 a)):=by
   intro m;rw[pA];induction m with
   |nil=>rfl
   |cons a m ih=>simp[cy,ih]
  cases r0 with
  |own _ _ _ eh h1=>
   obtain⟨gb,cap,rfl⟩:=l7 a9 eh bB;obtain⟨cur,xs,q1,q2,q3,q4,q5,q6,q7,q8,q9,q10,q11⟩:=ef a9 eh bB;have pL:(ab (l.map cy)).length=l.length:=by rw[aF,XD]
   rw[pL]at q3 q4 q8 q10 eh ⊢;rw[X']at q3 q4 q8 q11;rw[gY]at q2;have ME:xs=l.map (Value.int .i64):=by
    apply Yj;intro j;by_cases hj:j < l.length
    ·obtain⟨u,e1⟩:∃u,xs[j]? =some u:=⟨_,Xk (by omega)⟩;have:=q2.2 j (.d (.v (.int .i64 l[j]))) u (by rw[Xz,Xk hj];rfl) e1;rw[e1,Xz,Xk hj];cases cp this;rfl
    ·rw[XT (by omega),XT (by simp;omega)]
   have hH:Sort.Holds (Value.int .i64) w gb 0 l.toArray:=by
    intro j hj;have hj':j < l.length:=by simpa using hj
    have dC:∀o,w.cell? ⟨gb,o,none⟩=cur[o]? :=fun o=>by simp[YS,q1]
    refine⟨?_,lP q1⟩;rw[XG,dC,q4 j hj',ME,Xz,Xk hj',getElem!_pos l.toArray j hj];simp
   have hg:gb < w.heap.size:=(Ys.1 q1).1;have i8:=AnyG.slices_Sort_int L gb 0 cap l w hH hg (by omega);rw[hf,LI hp hs]at i8;refine i8.mono fun e w' ⟨he,m,os,hw'⟩=>?_;have Na:l'.length=l.length:=hp.length_eq;obtain⟨p1,p2⟩:=xT l'.toArray cur (by simp;omega);have ym:0 < cap:=by have:=Zd.2 pM;omega
   have hhb:w'.heap[gb]? =some (.cells (Sort.putCells (Value.int .i64) 0 l'.toArray cur) E (0,0)):=by
    rw[hw',Sort.heap_grow_old _ _ (by simpa using hg)];show (w.heap.modify gb (Sort.onCells _))[gb]? =_;rw[Y9,if_pos rfl,q1];rfl
   have eS:OneB w w' (some gb):=by
    refine⟨by rw[hw'];rfl,by rw[hw'];rfl,by rw[hw'];rfl,?_,fun b hb bB=>?_⟩
    ·rw[hw',Sort.size_grow,Sort.size_putRow,Sort.heap_ahead];omega
    ·rw[hw',Sort.heap_grow_old _ _ (by simpa using hb)];show (w.heap.modify gb (Sort.onCells _))[b]? =_;rw[Y9,if_neg (fun e=>bB (by rw[e]))]
   have FP:∀r∈ab (l'.map cy),r.length=1:=fun r hr=>by
    obtain⟨q,hq,rfl⟩:=iB hr;obtain⟨x,-,rfl⟩:=XQ.1 hq;rfl
   have oO:bH c w (ab (l'.map cy)).flatten (l'.map (Value.int .i64)):=by
    rw[gY];refine⟨by simp,fun j d v hj hv=>?_⟩;rw[Xz,XO]at hj hv;obtain⟨a,ha,rfl⟩:=hj;obtain⟨b,hb,rfl⟩:=hv;rw[ha]at hb;cases hb;exact .d _ _ (.v _)
   have DV:=hr.put_row (w':=w') (k:=0) (rows':=ab (l'.map cy)) (xs':=l'.map (Value.int .i64)) rfl eh (by rw[dk ym];exact eS) (by
    rw[aF,XD,Na];exact .row gb l.length cap _ _ ym hhb q10 q9 (by rw[p2,X'];exact q11) (by rw[XD,X'];omega) (by
     rw[X',←Na,show l'.length=l'.toArray.size by simp,p1])) oO FP (kN (enc:=cy) (fun _=>rfl) l')
   have mM:cH [(0,Chunk.row E 1 g (ab (l'.map cy)))] (bQ [] [.row E 1 g (ab (l.map cy))]).heap=aG [.row E 1 g (ab (l'.map cy))]:=by
    funext k;rw[qA];cases k with
    |zero=>rfl
    |succ k=>rfl
   rw[mM]at DV;refine⟨_,c,he,.d _ _ (.tup [] [] rfl fun j d x h=>by simp at h),DV⟩
theorem LJ {l l':List Int}(g:Nat)(pM:l≠[])(hp:l'.Perm l)(hs:l'.Pairwise fun x y=>x < y)(cT:l.length≤1000000):MSpec prog 158 [.own 0 g] [.row 3 1 g (ab (l.map cy))] (.d (.tup [])) [.row 3 1 g (ab (l'.map cy))]:=
 IB sortInt rfl (cZ func158 (by kernel_rfl) rfl) pM hp hs cT
end
def dX (v:Vpc)(sub id:Int):Vpc × Int:=
 if bN v≠0 then (Vpc.zero,bN v)else
 match v.subs.findIdx? (fun s=>s.id==sub)with
 |none=>(Vpc.zero,5)
 |some i=>match v.subs[i]? with
  |none=>(Vpc.zero,5)
  |some s=>match s.faces.findIdx? (fun f=>f.id==id)with
   |none=>(Vpc.zero,5)
   |some k=>({v with subs:=v.subs.set i {s with faces:=s.faces.eraseIdx k}},0)
theorem LL (v:Vpc)(sub id:Int):af prog 74 [.agg (al v),.v (.int .i64 sub),.v (.int .i64 id)] (.tup [.agg (al (dX v sub id).1),.v (.int .i64 (dX v sub id).2)]):=by
 obtain⟨R,hR⟩:∃R,R=dX v sub id:=⟨_,rfl⟩;rw[←hR];replace hR:=Xj hR;by_cases hc:bN v=0
 ·have hk:=aY hc;have gT:=uF v sub id hk.n6 (fun s hs=>(hk.n8 s hs).1);have ur:decide ((-1:Int) < 0)=true:=rfl;unfold ws at gT;cases hf:v.subs.findIdx? (fun s=>s.id==sub)with
  |none=>
   have cU:=lg v hc hk.n4 hk.n6 hk.n8;rw[hf]at gT;have hr:R=(Vpc.zero,5):=by rw[hR.out];unfold dX;rw[if_neg (by simpa using hc),hf]
   rw[hr];clear hr hR hf hc hk;refine pj func74 ntmps74 results74 ?_;have z1z:=Ln.mk (ls:=[]) (cU);refine am ?_<;>intros;exact dg
  |some i=>
   obtain⟨pre,s,post,hv,iP,-,hs⟩:=fL hf;have lN:=Xl hs;have iO:=hk.n8 s lN;have cU:=wn v pre post s hv hc hk.n4 hk.n6 hk.n8;rw[hf]at gT;simp only at gT;unfold sQ at gT;rw[hs]at gT;simp only[al,hv,Xo,Xm,aT]at gT;unfold cz at gT;have ph:v.subs.length=pre.length+1+post.length:=by rw[hv];simp;omega
   cases hg:s.faces.findIdx? (fun f=>f.id==id)with
   |none=>
    rw[hg]at gT;have hr:R=(Vpc.zero,5):=by rw[hR.out];unfold dX;rw[if_neg (by simpa using hc),hf];simp only;rw[hs];simp only;rw[hg]
    rw[hr];subst iP;clear hr hR hc hk hf hs lN hv hg;refine pj func74 ntmps74 results74 ?_;have z1z:=@ck.eq_1;have z2z:=Ln.mk (ls:=[]) (cU);refine am ?_<;>intros;exact dg
   |some k=>
    rw[hg]at gT;have uI:k < s.faces.length:=(XI.1 hg).1;have hr:R=({v with subs:=pre++{s with faces:=s.faces.eraseIdx k}::post},0):=by
     rw[hR.out];unfold dX;rw[if_neg (by simpa using hc),hf];simp only;rw[hs];simp only;rw[hg];simp only;rw[hv,←iP,Yu _ _ (XB _),YG,Xu]
    have hd:=C6 (enc:=cj) s.faces k (k+1) s.faces.length uI rfl;have cR:=wi k (by omega);have hk0:decide ((k:Int) < 0)=false:=by simp
    rw[hr];subst iP;clear hr hR hc hk hf hs lN hv hg;refine pj func74 ntmps74 results74 ?_;have z1z:=@ck.eq_1;have z2z:=Ln.mk (ls:=[]) (cU);have z3z:=Ln.mk (ls:=[8]) (hd);refine am ?_<;>intros;all_goals(first|omega|(simp only[al,aT,Xo,Xm];exact dg))
 ·have cU:=lf v hc;have UA:=sR sub id;have h1:(bN v !=0)=true:=by simpa using hc
  have hr:R=(Vpc.zero,bN v):=by rw[hR.out];unfold dX;rw[if_pos hc]
  rw[hr];replace hr:=Xj hr;refine pj func74 ntmps74 results74 ?_;have z1z:=Ln.mk (ls:=[]) (cU);refine am ?_<;>intros;exact dg
theorem qi {used:List Int}{p:Pfx}:∀{n:Nat}{x a:Int},fK used p n x=some a→a∉used∧iW p a=true
 |0,x,a,h=>by cases h
 |n+1,x,a,h=>by
  unfold fK at h;split at h
  ·rename_i hi;split at h
   ·exact qi h
   ·rename_i hu;cases h;exact⟨hu,hi⟩
  ·cases h
def gn (v:Vpc)(sub id:Int):Vpc × Int × Int:=
 if bN v≠0 then (Vpc.zero,0,bN v)else
 match v.subs.findIdx? (fun s=>s.id==sub)with
 |none=>(Vpc.zero,0,5)
 |some i=>match v.subs[i]? with
  |none=>(Vpc.zero,0,5)
  |some s=>match s.faces.findIdx? (fun f=>f.id==id)with
   |none=>(Vpc.zero,0,5)
   |some k=>match s.faces[k]? with
    |none=>(Vpc.zero,0,5)
    |some f=>if f.addrs.length=4 then (Vpc.zero,0,2)else match eD s with
     |none=>(Vpc.zero,0,8)
     |some a=>({v with subs:=v.subs.set i {s with faces:=s.faces.set k {f with addrs:=di (fun x=>x) a f.addrs}}},a,0)
theorem Rk (v:Vpc)(sub id:Int):af prog 73 [.agg (al v),.v (.int .i64 sub),.v (.int .i64 id)] (.tup [.agg (al (gn v sub id).1),.v (.int .i64 (gn v sub id).2.1),.v (.int .i64 (gn v sub id).2.2)]):=by
 obtain⟨R,hR⟩:∃R,R=gn v sub id:=⟨_,rfl⟩;rw[←hR];replace hR:=Xj hR;by_cases hc:bN v=0
 ·have hk:=aY hc;have gT:=uF v sub id hk.n6 (fun s hs=>(hk.n8 s hs).1);have ur:decide ((-1:Int) < 0)=true:=rfl;unfold ws at gT;cases hf:v.subs.findIdx? (fun s=>s.id==sub)with
  |none=>
   have cU:=lg v hc hk.n4 hk.n6 hk.n8;rw[hf]at gT;have hr:R=(Vpc.zero,0,5):=by rw[hR.out];unfold gn;rw[if_neg (by simpa using hc),hf]
   rw[hr];clear hr hR hf hc hk;refine pj func73 ntmps73 results73 ?_;have z1z:=Ln.mk (ls:=[]) (cU);refine am ?_<;>intros;exact dg
  |some i=>
   obtain⟨pre,s,post,hv,iP,-,hs⟩:=fL hf;have lN:=Xl hs;obtain⟨s1,s2,s3,s4⟩:=o7 hk lN;have iO:=hk.n8 s lN;rw[hf]at gT;simp only at gT;unfold sQ at gT;rw[hs]at gT;have ph:v.subs.length=pre.length+1+post.length:=by rw[hv];simp;omega
   cases hg:s.faces.findIdx? (fun f=>f.id==id)with
   |none=>
    have cU:=wn v pre post s hv hc hk.n4 hk.n6 hk.n8;simp only[al,hv,Xo,Xm,aT]at gT;unfold cz at gT;rw[hg]at gT;have hr:R=(Vpc.zero,0,5):=by rw[hR.out];unfold gn;rw[if_neg (by simpa using hc),hf];simp only;rw[hs];simp only;rw[hg]
    rw[hr];subst iP;clear hr hR hc hk hf hs lN hv hg;refine pj func73 ntmps73 results73 ?_;have z1z:=@ck.eq_1;have z2z:=Ln.mk (ls:=[]) (cU);refine am ?_<;>intros;exact dg
   |some k=>
    obtain⟨preF,f,postF,yp,Bk,-,tj⟩:=fL hg;have D0:=Xl tj;have cU:=LF v pre post s preF postF f hv yp hc hk.n4 hk.n6 hk.n8;have hle:=GK s iO.1 iO.2 s1 s2;have gY:=iO.2 f D0;simp only[aT,yp,Xo,Xm,cj]at hle;simp only[al,hv,Xo,Xm,aT]at gT;unfold cz at gT;rw[hg]at gT;simp only[yp,Xo,Xm,cj]at gT;have R9:s.faces.length=preF.length+1+postF.length:=by rw[yp];simp;omega
    have hk0:decide ((k:Int) < 0)=false:=by simp
    have aP:R=if f.addrs.length=4 then ((Vpc.zero,0,2):Vpc × Int × Int)else match eD s with
     |none=>(Vpc.zero,0,8)
     |some a=>({v with subs:=pre++{s with faces:=preF++{f with addrs:=di (fun x=>x) a f.addrs}::postF}::post},a,0):=by
     rw[hR.out];unfold gn;rw[if_neg (by simpa using hc),hf];simp only;rw[hs];simp only;rw[hg];simp only;rw[tj];simp only;split
     ·rfl
     ·cases eD s with
      |none=>rfl
      |some a=>
       simp only;rw[hv,←iP,Yu _ _ (XB _),YG,Xu];rw[yp,←Bk,Yu _ _ (XB _),YG,Xu]
    by_cases h4:f.addrs.length=4
    ·rw[if_pos h4]at aP;have h4b:((f.addrs.length:Int)==4)=true:=by simp;omega
     rw[aP];subst iP;subst Bk;clear hR aP hc hk hf hs lN hv hg tj D0;refine pj func73 ntmps73 results73 ?_;have z1z:=@ck.eq_1;have z2z:=@d8.eq_1;have z3z:=Ln.mk (ls:=[]) (cU);refine am ?_<;>intros;all_goals(first|omega|exact dg)
    ·rw[if_neg h4]at aP;have h4b:((f.addrs.length:Int)==4)=false:=by simp;omega
     cases hl:eD s with
     |none=>
      rw[hl]at aP hle;simp only[Option.getD_none,YZ]at hle;rw[aP];subst iP;subst Bk;clear hR aP hc hk hf hs lN hv hg tj D0;refine pj func73 ntmps73 results73 ?_;have z1z:=@ck.eq_1;have z2z:=@d8.eq_1;have z3z:=Ln.mk (ls:=[]) (cU);refine am ?_<;>intros;all_goals(first|omega|exact dg)
     |some a=>
      rw[hl]at aP hle;simp only[YI,XR]at hle;have Nw:a∉f.addrs:=fun h=>(qi hl).1 (ZY.2 ⟨f,D0,h⟩);have uw:f.addrs.Pairwise fun x y=>x < y:=by
       have:=s4 f D0;unfold kT at this;simp only[Xy,f5]at this;exact this.2.2.1
      have nJ:=LJ (l:=f.addrs++[a]) (l':=di (fun x=>x) a f.addrs) 2 (by simp) (f6 _ _ _) (gB uw (fun y hy e=>Nw (e ▸ hy))) (by simp;omega);simp only[Xo,Xm,Xv]at nJ;have jf:f.addrs.length+1≤100:=by omega
      rw[aP];subst iP;subst Bk;clear hR aP hc hk hf hs lN hv hg tj D0 Nw uw hl;refine pj func73 ntmps73 results73 ?_;have z1z:=@ck.eq_1;have z2z:=@d8.eq_1;have z3z:=Ln.mk (ls:=[]) (cU);have z4z:=Ln.mk (ls:=[10]) (nJ);refine am ?_<;>intros;all_goals(first|omega|(simp only[al,aT,cj,Xo,Xm];exact dg))
 ·have cU:=lf v hc;have UA:=sR sub id;have h1:(bN v !=0)=true:=by simpa using hc
  have hr:R=(Vpc.zero,0,bN v):=by rw[hR.out];unfold gn;rw[if_pos hc]
  rw[hr];replace hr:=Xj hr;refine pj func73 ntmps73 results73 ?_;have z1z:=Ln.mk (ls:=[]) (cU);refine am ?_<;>intros;exact dg
def So (b:Bok)(n:Net)(c:Cmd)(a:Ans):List D:=[.v (.int .i64 b.tick),.sl 9 (b.pools.map ah),.sl 3 (n.vpcs.map al),.sl 2 (n.links.map bG),.v (.int .i64 c.op),.v (.int .i64 c.a),.v (.int .i64 c.b),.v (.int .i64 c.c),.v (.int .i64 c.at_.at_),.v (.int .i64 c.at_.len),.v (.int .i64 c.rule.min),.v (.int .i64 c.rule.max),.v (.int .i64 c.rule.usual),.v (.int .i64 c.rule.cool),.v (.int .i64 a.err),.v (.int .i64 a.at_.at_),.v (.int .i64 a.at_.len),.v (.int .i64 a.n)]
theorem wt (b:Bok)(n:Net)(c:Cmd)(a:Ans)(v:Vpc):af prog 140 [.agg (al v),.ept [.ept (So b n c a)]] (.v (.bool (v.id==c.a))):=by
 unfold So;refine pj func140 ntmps140 results140 ?_;exact bc
theorem IC (b:Bok)(n:Net)(c:Cmd)(h6:n.vpcs.length≤1000000000)(k:Nat)(hk:cz (fun v=>v.id==c.a) n.vpcs=k)(hlt:k < n.vpcs.length):
 MSpec prog 67 [.ptr 0 0] [.box 86 (ji b (.own 1 n.vpcs.length) (.d (.sl 2 (n.links.map bG))) c .zero),.row 55 3 n.vpcs.length (ab (n.vpcs.map al))] (.rp 1 n.vpcs.length 3 k 0)
  [.box 86 (ji b (.own 1 n.vpcs.length) (.d (.sl 2 (n.links.map bG))) c .zero),.row 55 3 n.vpcs.length (ab (n.vpcs.map al))]:=by
 have hx:=v7 iS (fun v=>v.id==c.a) n.vpcs 140 [.ept [.ept (So b n c .zero)]] h6 (fun v _=>wt b n c .zero v);unfold So at hx;rw[hk]at hx;clear hk;have e1:decide ((k:Int) < 0)=false:=by simp
 have dM:(k:Int) < (n.vpcs.length:Int):=by omega
 refine iV ae ak func67 rfl ntmps67 results67 (by kernel_rfl) (by simp) (by simp[an,aq]) (by simp[aH,aQ,an,aq,ji,bj,az]) ?_;refine am ?_;exact wf
theorem Ff (b:Bok)(n:Net)(c:Cmd)(h6:n.vpcs.length≤1000000000)(hk:cz (fun v=>v.id==c.a) n.vpcs < 0):
 MSpec prog 67 [.ptr 0 0] [.box 86 (ji b (.own 1 n.vpcs.length) (.d (.sl 2 (n.links.map bG))) c .zero),.row 55 3 n.vpcs.length (ab (n.vpcs.map al))] (.d (.v (.pointer none)))
  [.box 86 (ji b (.own 1 n.vpcs.length) (.d (.sl 2 (n.links.map bG))) c .zero),.row 55 3 n.vpcs.length (ab (n.vpcs.map al))]:=by
 have hx:=v7 iS (fun v=>v.id==c.a) n.vpcs 140 [.ept [.ept (So b n c .zero)]] h6 (fun v _=>wt b n c .zero v);unfold So at hx;have e1:decide (cz (fun v=>v.id==c.a) n.vpcs < 0)=true:=by simpa using hk
 replace hk:=Xj hk;generalize cz (fun v=>v.id==c.a) n.vpcs=i at*;refine iV ae ak func67 rfl ntmps67 results67 (by kernel_rfl) (by simp) (by simp[an,aq]) (by simp[aH,aQ,an,aq,ji,bj,az]) ?_;refine am ?_;exact wf
def lQ (b:Bok)(n:Net)(c:Cmd)(i:Nat)(v:Vpc):Bok × Net × Ans:=
 if c.op=8 then
  if (cS b c.b c.c c.a).2.2=0 then ((cS b c.b c.c c.a).1,(gV n c.a ⟨(cS b c.b c.c c.a).2.1,c.b⟩).1,⟨(gV n c.a ⟨(cS b c.b c.c c.a).2.1,c.b⟩).2,(cS b c.b c.c c.a).2.1,0⟩)
  else ((cS b c.b c.c c.a).1,n,⟨(cS b c.b c.c c.a).2.2,(cS b c.b c.c c.a).2.1,0⟩)
 else if c.op=9 then
  if (dP v c.at_).2.2=0 then ((fj b (dP v c.at_).2.1.pool (dP v c.at_).2.1.at_).1,{n with vpcs:=n.vpcs.set i (dP v c.at_).1},.er (fj b (dP v c.at_).2.1.pool (dP v c.at_).2.1.at_).2)
  else (b,{n with vpcs:=n.vpcs.set i (dP v c.at_).1},.er (dP v c.at_).2.2)
 else if c.op=10 then (b,{n with vpcs:=n.vpcs.set i (nH v c.b c.at_).1},.er (nH v c.b c.at_).2)
 else if c.op=11 then (b,{n with vpcs:=n.vpcs.set i (fp v c.b).1},.er (fp v c.b).2)
 else if c.op=12 then (b,{n with vpcs:=n.vpcs.set i (gE v c.b c.c).1},⟨(gE v c.b c.c).2.2,⟨0,0⟩,(gE v c.b c.c).2.1⟩)
 else if c.op=13 then (b,{n with vpcs:=n.vpcs.set i (gn v c.b c.c).1},⟨(gn v c.b c.c).2.2,⟨0,0⟩,(gn v c.b c.c).2.1⟩)
 else (b,{n with vpcs:=n.vpcs.set i (dX v c.b c.c).1},.er (dX v c.b c.c).2)
def jB (b:Bok)(n:Net)(c:Cmd):Bok × Net × Ans:=
 if cz (fun v=>v.id==c.a) n.vpcs < 0 then (b,n,.er 5)else
 match n.vpcs[(cz (fun v=>v.id==c.a) n.vpcs).toNat]? with
 |some v=>lQ b n c (cz (fun v=>v.id==c.a) n.vpcs).toNat v
 |none=>(b,n,.er 5)
theorem LM (b:Bok)(n:Net)(c:Cmd)(h6:n.vpcs.length≤1000000000)(hk:cz (fun v=>v.id==c.a) n.vpcs < 0):
 MSpec prog 29 [.ptr 0 0] [.box 86 (ji b (.own 1 n.vpcs.length) (.d (.sl 2 (n.links.map bG))) c .zero),.row 55 3 n.vpcs.length (ab (n.vpcs.map al))] (.d (.tup []))
  [.box 86 (ji b (.d (.sl 3 (n.vpcs.map al))) (.d (.sl 2 (n.links.map bG))) c (.er 5)),.gone]:=by
 have hw:=Lr.mk (ls:=[0,1]) (Ff b n c h6 hk);simp only[ji]at hw;clear hk h6;refine iV ae ak func29 rfl ntmps29 results29 (by kernel_rfl) (by simp) (by simp[an,aq]) (by simp[aH,aQ,an,aq,ji,bj,az]) ?_;refine am ?_;refine(ap 1 n.vpcs.length 55 3 (n.vpcs.map al) rfl).trans ?_;simp only[iD,fz,gy,gj,g8,f9,aR,bS,bW,Xm,Xv,XM,XL,reduceIte,and_true,true_and,and_self,and_false,false_and,XG,XW,reduceCtorEq];exact wf
theorem LN (b:Bok)(n:Net)(c:Cmd)(hz:∀p∈b.pools,p.leases.length≤3518437208882)(h6:n.vpcs.length≤1000000000)(k:Nat)(hk:cz (fun v=>v.id==c.a) n.vpcs=k)(v:Vpc)(hv:n.vpcs[k]? =some v)(ho:8≤c.op∧c.op≤14):
 MSpec prog 29 [.ptr 0 0] [.box 86 (ji b (.own 1 n.vpcs.length) (.d (.sl 2 (n.links.map bG))) c .zero),.row 55 3 n.vpcs.length (ab (n.vpcs.map al))] (.d (.tup []))
  [.box 86 (ji (lQ b n c k v).1 (.d (.sl 3 ((lQ b n c k v).2.1.vpcs.map al))) (.d (.sl 2 ((lQ b n c k v).2.1.links.map bG))) c (lQ b n c k v).2.2),.gone]:=by
 have hlt:=(Xn.1 hv).1;have dM:(k:Int) < (n.vpcs.length:Int):=by omega
 have hw:=Lr.mk (ls:=[0,1]) (IC b n c h6 k hk hlt);simp only[ji]at hw;have lR:c.op=8∨c.op=9∨c.op=10∨c.op=11∨c.op=12∨c.op=13∨c.op=14:=by omega
 clear ho hk h6;unfold lQ;rcases lR with h1|h1|h1|h1|h1|h1|h1
 ·rw[if_pos h1];have hp:=Lh b c.b c.c c.a hz;generalize cS b c.b c.c c.a=R at*;replace hz:=Xj hz;rw[h1]at hw;by_cases h2:R.2.2=0
  ·rw[if_pos h2];have hg:=Ln.mk (ls:=[1]) (vz (OM n c.a ⟨R.2.1,c.b⟩) (args:=[.agg [.own 0 n.vpcs.length,.d (.sl 2 (n.links.map bG))],.d (.v (.int .i64 c.a)),.d (.agg (bp ⟨R.2.1,c.b⟩))]) (h0:=[.row 55 3 n.vpcs.length (ab (n.vpcs.map al))]) (by simp[an,aq]) (by simp[aH,aQ,az]) (by simp[vw,cM,bq,aG,eJ,aK]) (by simp[tc,jq,cW,aG,nZ]));generalize gV n c.a ⟨R.2.1,c.b⟩=G at*;refine iV ae ak func29 rfl ntmps29 results29 (by kernel_rfl) (by simp) (by simp[an,aq]) (by simp[aH,aQ,an,aq,ji,bj,az]) ?_;refine am ?_;exact wf
  ·rw[if_neg h2];have e2:(R.2.2==0)=false:=by simpa using h2
   replace h2:=Xj h2;refine iV ae ak func29 rfl ntmps29 results29 (by kernel_rfl) (by simp) (by simp[an,aq]) (by simp[aH,aQ,an,aq,ji,bj,az]) ?_;refine am ?_;refine(ap 1 n.vpcs.length 55 3 (n.vpcs.map al) rfl).trans ?_;simp only[iD,fz,gy,gj,g8,f9,aR,bS,bW,Xm,Xv,XM,XL,reduceIte,and_true,true_and,and_self,and_false,false_and,XG,XW,reduceCtorEq];exact wf
 ·rw[if_neg (by omega),if_pos h1];have hp:=OW v c.at_;generalize dP v c.at_=R at*;have hg:=Li b R.2.1.pool R.2.1.at_ hz;replace hz:=Xj hz;rw[h1]at hw;by_cases h2:R.2.2=0
  ·rw[if_pos h2];generalize fj b R.2.1.pool R.2.1.at_=G at*;have bZ:(ab (n.vpcs.map al)).set k [.d (.v (.int .i64 R.1.id)),.d (.sl 3 (R.1.ranges.map bp)),.d (.sl 4 (R.1.subs.map aT))]=ab ((n.vpcs.set k R.1).map al):=bO al n.vpcs k R.1;refine iV ae ak func29 rfl ntmps29 results29 (by kernel_rfl) (by simp) (by simp[an,aq]) (by simp[aH,aQ,an,aq,ji,bj,az]) ?_;refine am ?_;refine(ap 1 n.vpcs.length 55 3 ((n.vpcs.set k R.1).map al) rfl).trans ?_;simp only[iD,fz,gy,gj,g8,f9,aR,bS,bW,Xm,Xv,XM,XL,reduceIte,and_true,true_and,and_self,and_false,false_and,XG,XW,reduceCtorEq];exact wf
  ·rw[if_neg h2];have e2:(R.2.2==0)=false:=by simpa using h2
   replace h2:=Xj h2;clear hg;have bZ:(ab (n.vpcs.map al)).set k [.d (.v (.int .i64 R.1.id)),.d (.sl 3 (R.1.ranges.map bp)),.d (.sl 4 (R.1.subs.map aT))]=ab ((n.vpcs.set k R.1).map al):=bO al n.vpcs k R.1;refine iV ae ak func29 rfl ntmps29 results29 (by kernel_rfl) (by simp) (by simp[an,aq]) (by simp[aH,aQ,an,aq,ji,bj,az]) ?_;refine am ?_;refine(ap 1 n.vpcs.length 55 3 ((n.vpcs.set k R.1).map al) rfl).trans ?_;simp only[iD,fz,gy,gj,g8,f9,aR,bS,bW,Xm,Xv,XM,XL,reduceIte,and_true,true_and,and_self,and_false,false_and,XG,XW,reduceCtorEq];exact wf
 ·rw[if_neg (by omega),if_neg (by omega),if_pos h1];have hp:=Rj v c.b c.at_;generalize nH v c.b c.at_=R at*;replace hz:=Xj hz;rw[h1]at hw;have bZ:(ab (n.vpcs.map al)).set k [.d (.v (.int .i64 R.1.id)),.d (.sl 3 (R.1.ranges.map bp)),.d (.sl 4 (R.1.subs.map aT))]=ab ((n.vpcs.set k R.1).map al):=bO al n.vpcs k R.1;refine iV ae ak func29 rfl ntmps29 results29 (by kernel_rfl) (by simp) (by simp[an,aq]) (by simp[aH,aQ,an,aq,ji,bj,az]) ?_;refine am ?_;refine(ap 1 n.vpcs.length 55 3 ((n.vpcs.set k R.1).map al) rfl).trans ?_;simp only[iD,fz,gy,gj,g8,f9,aR,bS,bW,Xm,Xv,XM,XL,reduceIte,and_true,true_and,and_self,and_false,false_and,XG,XW,reduceCtorEq];exact wf
 ·rw[if_neg (by omega),if_neg (by omega),if_neg (by omega),if_pos h1];have hp:=OX v c.b;generalize fp v c.b=R at*;replace hz:=Xj hz;rw[h1]at hw;have bZ:(ab (n.vpcs.map al)).set k [.d (.v (.int .i64 R.1.id)),.d (.sl 3 (R.1.ranges.map bp)),.d (.sl 4 (R.1.subs.map aT))]=ab ((n.vpcs.set k R.1).map al):=bO al n.vpcs k R.1;refine iV ae ak func29 rfl ntmps29 results29 (by kernel_rfl) (by simp) (by simp[an,aq]) (by simp[aH,aQ,an,aq,ji,bj,az]) ?_;refine am ?_;refine(ap 1 n.vpcs.length 55 3 ((n.vpcs.set k R.1).map al) rfl).trans ?_;simp only[iD,fz,gy,gj,g8,f9,aR,bS,bW,Xm,Xv,XM,XL,reduceIte,and_true,true_and,and_self,and_false,false_and,XG,XW,reduceCtorEq];exact wf
 ·rw[if_neg (by omega),if_neg (by omega),if_neg (by omega),if_neg (by omega),if_pos h1];have hp:=OY v c.b c.c;generalize gE v c.b c.c=R at*;replace hz:=Xj hz;rw[h1]at hw;have bZ:(ab (n.vpcs.map al)).set k [.d (.v (.int .i64 R.1.id)),.d (.sl 3 (R.1.ranges.map bp)),.d (.sl 4 (R.1.subs.map aT))]=ab ((n.vpcs.set k R.1).map al):=bO al n.vpcs k R.1;refine iV ae ak func29 rfl ntmps29 results29 (by kernel_rfl) (by simp) (by simp[an,aq]) (by simp[aH,aQ,an,aq,ji,bj,az]) ?_;refine am ?_;refine(ap 1 n.vpcs.length 55 3 ((n.vpcs.set k R.1).map al) rfl).trans ?_;simp only[iD,fz,gy,gj,g8,f9,aR,bS,bW,Xm,Xv,XM,XL,reduceIte,and_true,true_and,and_self,and_false,false_and,XG,XW,reduceCtorEq];exact wf
 ·rw[if_neg (by omega),if_neg (by omega),if_neg (by omega),if_neg (by omega),if_neg (by omega),if_pos h1];have hp:=Rk v c.b c.c;generalize gn v c.b c.c=R at*;replace hz:=Xj hz;rw[h1]at hw;have bZ:(ab (n.vpcs.map al)).set k [.d (.v (.int .i64 R.1.id)),.d (.sl 3 (R.1.ranges.map bp)),.d (.sl 4 (R.1.subs.map aT))]=ab ((n.vpcs.set k R.1).map al):=bO al n.vpcs k R.1;refine iV ae ak func29 rfl ntmps29 results29 (by kernel_rfl) (by simp) (by simp[an,aq]) (by simp[aH,aQ,an,aq,ji,bj,az]) ?_;refine am ?_;refine(ap 1 n.vpcs.length 55 3 ((n.vpcs.set k R.1).map al) rfl).trans ?_;simp only[iD,fz,gy,gj,g8,f9,aR,bS,bW,Xm,Xv,XM,XL,reduceIte,and_true,true_and,and_self,and_false,false_and,XG,XW,reduceCtorEq];exact wf
 ·rw[if_neg (by omega),if_neg (by omega),if_neg (by omega),if_neg (by omega),if_neg (by omega),if_neg (by omega)];have hp:=LL v c.b c.c;generalize dX v c.b c.c=R at*;replace hz:=Xj hz;rw[h1]at hw;have bZ:(ab (n.vpcs.map al)).set k [.d (.v (.int .i64 R.1.id)),.d (.sl 3 (R.1.ranges.map bp)),.d (.sl 4 (R.1.subs.map aT))]=ab ((n.vpcs.set k R.1).map al):=bO al n.vpcs k R.1;refine iV ae ak func29 rfl ntmps29 results29 (by kernel_rfl) (by simp) (by simp[an,aq]) (by simp[aH,aQ,an,aq,ji,bj,az]) ?_;refine am ?_;refine(ap 1 n.vpcs.length 55 3 ((n.vpcs.set k R.1).map al) rfl).trans ?_;simp only[iD,fz,gy,gj,g8,f9,aR,bS,bW,Xm,Xv,XM,XL,reduceIte,and_true,true_and,and_self,and_false,false_and,XG,XW,reduceCtorEq];exact wf
theorem sS {α:Type}(p:α→Bool)(l:List α):cz p l < 0∨∃(k:Nat) (x:α),cz p l=k∧l[k]? =some x:=by
 unfold cz;cases h:l.findIdx? p with
 |none=>left;simp
 |some k=>
  right;have hk:=(XI.1 h).1;exact⟨k,_,rfl,Xk hk⟩
theorem OZ (b:Bok)(n:Net)(c:Cmd)(hz:∀p∈b.pools,p.leases.length≤3518437208882)(h6:n.vpcs.length≤1000000000)(ho:8≤c.op∧c.op≤14):
 MSpec prog 29 [.ptr 0 0] [.box 86 (ji b (.own 1 n.vpcs.length) (.d (.sl 2 (n.links.map bG))) c .zero),.row 55 3 n.vpcs.length (ab (n.vpcs.map al))] (.d (.tup []))
  [.box 86 (ji (jB b n c).1 (.d (.sl 3 ((jB b n c).2.1.vpcs.map al))) (.d (.sl 2 ((jB b n c).2.1.links.map bG))) c (jB b n c).2.2),.gone]:=by
 unfold jB;rcases sS (fun v:Vpc=>v.id==c.a) n.vpcs with h|⟨k,v,hk,hv⟩
 ·rw[if_pos h];exact LM b n c h6 h
 ·rw[hk,if_neg (by omega),Int.toNat_natCast,hv];exact LN b n c hz h6 k hk v hv ho
def AI (s:Ste)(c:Cmd):Ste × Ans:=
 if 1≤c.op∧c.op≤6 then (⟨(mF s.book s.net.vpcs c).1,s.net⟩,(mF s.book s.net.vpcs c).2)
 else if zo c=true then (⟨s.book,(xS s.book s.net c).1⟩,(xS s.book s.net c).2)
 else if 8≤c.op∧c.op≤14 then (⟨(jB s.book s.net c).1,(jB s.book s.net c).2.1⟩,(jB s.book s.net c).2.2)
 else (s,.er 4)
def AJ (s:Ste)(c:Cmd):Ste × Ans × Int:=
 if ig s≠0 then (.zero,.zero,ig s)
 else if (AI s c).2.err≠0 then (s,.er (AI s c).2.err,0)else ((AI s c).1,(AI s c).2,0)
theorem wu {s:Ste}(h:ig s=0):aZ s.book=0∧cN s.net=0:=by
 unfold ig at h;split at h
 ·rename_i h1;exact absurd h h1
 ·rename_i h1;split at h
  ·rename_i h2;exact absurd h h2
  ·rename_i h2;exact⟨by simpa using h1,by simpa using h2⟩
theorem S4 (s:Ste)(c:Cmd)(hz:∀p∈s.book.pools,p.leases.length≤3518437208882):af prog 8 [.agg (fw s),.agg (mg c)] (.tup [.agg (fw (AJ s c).1),.agg (tC (AJ s c).2.1),.v (.int .i64 (AJ s c).2.2)]):=by
 have hc:=v9 s hz;unfold AJ;by_cases h:ig s=0
 ·rw[if_neg (by simpa using h)];rw[h]at hc;obtain⟨yd,pi⟩:=wu h;have zR:=dI yd;have cg:=gU.1 pi;have n8:=zR.n8;have fB:=zR.l32;have n6:=cg.n6;have R2:∀v∈s.net.vpcs,v.ranges.length≤1000000000:=fun v hv=>by have:=(aY (cg.vp v hv)).n4;omega
  have how:=Ln.mk (ls:=[]) (Ra s zR cg);have co:=Ln.mk (ls:=[10,9]) (Q9 s.book s.net.vpcs s.net.links c hz n6 R2);clear h yd pi zR cg R2;unfold AI;by_cases lR:1≤c.op∧c.op≤6
  ·rw[if_pos lR];rw[decide_eq_true lR]at co;replace lR:=Xj lR;replace hz:=Xj hz;replace fB:=Xj fB;generalize mF s.book s.net.vpcs c=X at*;simp only[ji,Ans.zero]at co;by_cases he:X.2.err=0
   ·rw[if_neg (by simpa using he)];have e0:(X.2.err !=0)=false:=by simpa using he
    replace he:=Xj he;refine pj func8 ntmps8 results8 ?_;first|exact bc|(refine am ?_;exact dz)
   ·rw[if_pos (by simpa using he)];have e0:(X.2.err !=0)=true:=by simpa using he
    replace he:=Xj he;refine pj func8 ntmps8 results8 ?_;first|exact bc|(refine am ?_;exact dz)
  rw[if_neg lR];rw[decide_eq_false lR]at co;have PF:mF s.book s.net.vpcs c=(s.book,.zero):=by unfold mF;rw[if_neg (by omega),if_neg (by omega),if_neg (by omega),if_neg (by omega),if_neg (by omega),if_neg (by omega)]
  rw[PF]at co;clear PF;cases Qo:zo c with
  |true=>
   rw[if_pos rfl];have JE:=Ln.mk (ls:=[10,9]) (Rg s.book s.net c (by omega) (fun p hp=>by have:=fB p hp;omega) Qo);replace lR:=Xj lR;replace hz:=Xj hz;replace fB:=Xj fB;replace Qo:=Xj Qo;generalize xS s.book s.net c=X at*;simp only[ji,Ans.zero]at co JE;by_cases he:X.2.err=0
   ·rw[if_neg (by simpa using he)];have e0:(X.2.err !=0)=false:=by simpa using he
    replace he:=Xj he;refine pj func8 ntmps8 results8 ?_;first|exact bc|(refine am ?_;exact dz)
   ·rw[if_pos (by simpa using he)];have e0:(X.2.err !=0)=true:=by simpa using he
    replace he:=Xj he;refine pj func8 ntmps8 results8 ?_;first|exact bc|(refine am ?_;exact dz)
  |false=>
   rw[if_neg Bool.false_ne_true];have JE:=Ln.mk (ls:=[10,9]) (Rf s.book s.net c Qo);by_cases ML:8≤c.op∧c.op≤14
   ·rw[if_pos ML];have dE:=Ln.mk (ls:=[10,9]) (OZ s.book s.net c hz (by omega) ML);have e1:decide (c.op < 8)=false:=by simp;omega
    have e2:decide (c.op>14)=false:=by simp;omega
    replace lR:=Xj lR;replace hz:=Xj hz;replace fB:=Xj fB;replace Qo:=Xj Qo;replace ML:=Xj ML;generalize jB s.book s.net c=X at*;simp only[ji,Ans.zero]at co JE dE;by_cases he:X.2.2.err=0
    ·rw[if_neg (by simpa using he)];have e0:(X.2.2.err !=0)=false:=by simpa using he
     replace he:=Xj he;refine pj func8 ntmps8 results8 ?_;first|exact bc|(refine am ?_;exact dz)
    ·rw[if_pos (by simpa using he)];have e0:(X.2.2.err !=0)=true:=by simpa using he
     replace he:=Xj he;refine pj func8 ntmps8 results8 ?_;first|exact bc|(refine am ?_;exact dz)
   ·rw[if_neg ML];rw[if_pos (by simp[Ans.er])];replace hz:=Xj hz;replace fB:=Xj fB;replace Qo:=Xj Qo;replace lR:=Xj lR;simp only[ji,Ans.zero]at co JE;by_cases h8:c.op < 8
    ·have e1:decide (c.op < 8)=true:=by simpa using h8
     replace h8:=Xj h8;replace ML:=Xj ML;refine pj func8 ntmps8 results8 ?_;first|exact bc|(refine am ?_;exact dz)
    ·have e1:decide (c.op < 8)=false:=by simpa using h8
     have e2:decide (c.op>14)=true:=by simp;omega
     replace h8:=Xj h8;replace ML:=Xj ML;refine pj func8 ntmps8 results8 ?_;first|exact bc|(refine am ?_;exact dz)
 ·rw[if_pos h];have e1:(ig s !=0)=true:=by simpa using h
  generalize ig s=X at*;replace h:=Xj h;refine pj func8 ntmps8 results8 ?_;refine am ?_;exact dz
theorem zp (p:Pol)(hb:p.leases.length≤3518437208882):af prog 102 [.agg (ah p)] (.agg (EI p.root (p.leases.map (·.at_)))):=by
 refine pj func102 ntmps102 results102 ?_;refine am ?_<;>intros;refine bL ae ak (fun m e h=>∃k g:Nat,k≤p.leases.length∧m=p.leases.length - k∧e=[(4,.d (.v (.int .i64 k))),(3,.ptr 2 0),(2,.ptr 1 0),(1,.ptr 0 0)]∧
  h=[.box 62 ((ah p).map .d),.box 151 [.d (.v (.int .i64 0)),.d (.v (.int .i64 0)),.d (.v (.slice none 0 0))],.box 151 [.d (.v (.int .i64 p.root.at_)),.d (.v (.int .i64 p.root.len)),.own 3 g],.row 32 2 g (ab (((p.leases.map (·.at_)).take k).map aN))]) _ _ _ ⟨0,0,XE _,rfl,rfl,rfl⟩ ?_ ?_
 ·exact(au (by simp) 2 _ _ 2 _ _ rfl rfl rfl).trans (wf (x:=[]) (hh:=rfl) (he:=⟨rfl,rfl,rfl,rfl,trivial⟩))
 ·rintro m e h ⟨k,g,hk,rfl,rfl,rfl⟩ C hC;by_cases hlt:k < p.leases.length
  ·obtain⟨l,hl⟩:∃l,p.leases[k]? =some l:=⟨_,Xk hlt⟩;have ew:(k:Int) < (p.leases.length:Int):=by omega
   have cR:=wi k (by omega);have rS:(((p.leases.map (·.at_)).take k).length+1)*16≤140737488355328:=by rw[Xq,XD];omega
   repeat' (first|(with_reducible refine And.intro ?_ ?_)|(with_reducible refine cn (fun _=>?_) (fun _=>?_))|(with_reducible refine aA (fun _=>?_) (fun _=>?_))|(with_reducible refine be (by kernel_rfl))|simp -dsimp only[go_sem,seval, *,ah,aV,hl,hlt,ew,cR,rS,Xq]|((with_reducible refine bf ?_);simp -dsimp only[go_sem,seval,ah,aV,hl,hlt,ew,cR,rS,Xq];first|refine aC (by first|assumption|fail) (by first|exact .inl rfl|exact .inr rfl) ?_|(refine aB (by assumption) ?_ ?_ ?_;(solve|(repeat(first|exact ai.refl _|exact ai.nil _|(refine ai.tup ?_)|(refine ai.agg ?_ rfl)|exact trivial|(refine And.intro ?_ ?_))));(solve|exact .inl rfl|exact .inr rfl)))|fail|omega|exact decide_eq_true (by omega)|exact ai.refl _)
   have Vu:(p.leases.map (·.at_)).take (k+1)=(p.leases.map (·.at_)).take k++[l.at_]:=ag (by rw[Xz,hl];rfl);refine hC _ _ _ _ _ ?_ ⟨k+1,g+1,hlt,rfl,rfl,rfl⟩ (wf (x:=[]) (hh:=?_) (he:=⟨rfl,rfl,rfl,rfl,trivial⟩))
   ·omega
   ·rw[Vu,Xo];rfl
  ·obtain rfl:k=p.leases.length:=by omega
   refine am ?_<;>intros;rw[XN (by simp)];all_goals exact ai.refl _
theorem oF {a b:Bool}(h:b=a):ai (.v (.bool a)) (.v (.bool b)):=h ▸ ai.refl _
theorem tO {a b:Int}(h:b=a):ai (.v (.int .i64 a)) (.v (.int .i64 b)):=h ▸ ai.refl _
theorem ep (n lo hi:Int):af prog 75 [.v (.int .i64 n),.v (.int .i64 lo),.v (.int .i64 hi)] (.v (.bool (decide (lo≤n)&&decide (n≤hi)))):=by
 refine pj func75 ntmps75 results75 ?_;exact bc;all_goals exact oF (by grind)
theorem qj (r:Rul)(p:Pfx):af prog 103 [.agg (pp r),.agg (aN p)] (.v (.bool (fH r p.len))):=by
 have hw:=ep r.cool 0 1024;have he:fH r p.len=((decide (p.len≤r.min)&&(decide (r.min≤r.usual)&&(decide (r.usual≤r.max)&&decide (r.max≤16))))&&(decide (0≤r.cool)&&decide (r.cool≤1024))):=by
  unfold fH;congr 1;simp[gm]
 replace he:=Xj he;refine pj func103 ntmps103 results103 ?_;repeat' (first|(with_reducible refine And.intro ?_ ?_)|(with_reducible refine cn (fun _=>?_) (fun _=>?_))|(with_reducible refine aA (fun _=>?_) (fun _=>?_))|(with_reducible refine be (by kernel_rfl))|simp -dsimp only[go_sem,seval, *,pp,aN]|((with_reducible refine bf ?_);simp -dsimp only[go_sem,seval,pp,aN];first|refine aC (by first|assumption|exact hw) (by first|exact .inl rfl|exact .inr rfl) ?_|(refine aB (by assumption) ?_ ?_ ?_;(solve|(repeat(first|exact ai.refl _|exact ai.nil _|(refine ai.tup ?_)|(refine ai.agg ?_ rfl)|exact trivial|(refine And.intro ?_ ?_))));(solve|exact .inl rfl|exact .inr rfl)))|fail|omega|exact decide_eq_true (by omega)|exact ai.refl _)
 all_goals exact oF (by rw[he.out];clear hw;grind)
def P5 (b:Bok)(id:Int):Int:=match b.pools.findIdx? fun p=>p.id==id with|some i=>i|none=> -1
theorem O0 {b:Bok}{id:Int}{k:Nat}{p:Pol}(hp:b.pools[k]? =some p)(hid:p.id=id)(cg:∀j q,j < k→b.pools[j]? =some q→q.id≠id):P5 b id=k:=by
 unfold P5;have:b.pools.findIdx? (fun p=>p.id==id)=some k:=by
  obtain⟨hk,he⟩:=Xn.1 hp;rw[XI];refine⟨hk,by rw[he];simpa using hid,fun j hj=>?_⟩;have:=cg j _ hj (Xk (Nat.lt_trans hj hk));simpa using this
 rw[this]
theorem C8 {b:Bok}{id:Int}(cg:∀j q,j < b.pools.length→b.pools[j]? =some q→q.id≠id):P5 b id= -1:=by
 unfold P5;have:b.pools.findIdx? (fun p=>p.id==id)=none:=by
  rw[Yn];intro q hq;obtain⟨j,hj,rfl⟩:=X0.1 hq;have:=cg j _ hj (Xk hj);simpa using this
 rw[this]
theorem ik {b:Bok}{id:Int}{p:Pol}(h:bK b id=some p):∃i:Nat,P5 b id=i∧b.pools[i]? =some p∧p.id=id:=by
 unfold P5;unfold bK at h;cases hf:b.pools.findIdx? fun p=>p.id==id with
 |none=>
  rw[Yn]at hf;have h1:=hf p (YF h);rw[Zh h]at h1;exact absurd h1 (by simp)
 |some i=>
  obtain⟨hi,hp,cg⟩:=XI.1 hf;refine⟨i,rfl,?_,by simpa using Zh h⟩;obtain⟨-,j,hj,he,Bi⟩:=List.find?_eq_some_iff_getElem.1 h;have hij:i=j:=by
   rcases Zb i j with hlt|h|hlt
   ·have:=Bi i hlt;rw[hp]at this;exact absurd this (by simp)
   ·exact h
   ·have h1:=cg j hlt;have h2:=Zh h;rw[he]at h1;exact absurd h2 h1
  rw[hij,Xk hj,he]
theorem nj {b:Bok}{id:Int}(h:bK b id=none):P5 b id= -1:=by
 refine C8 fun j q _ hq he=>?_;have:=Yq.1 h q (Xl hq);simp at this;exact this he
theorem il (b:Bok)(id:Int)(hl:b.pools.length≤9223372036854775807):af prog 18 [.agg (aS b),.v (.int .i64 id)] (.v (.int .i64 (P5 b id))):=by
 refine pj func18 ntmps18 results18 ?_;refine am ?_<;>intros;refine bo ae ak b.pools (fun k=>∀j (q:Pol),j < k→b.pools[j]? =some q→q.id≠id) (fun k=>[(5,.d (.v (.int .i64 k))),(4,.d (.v (.int .i64 0))),(2,.ptr 0 0),(1,.d (.v (.int .i64 id)))]) (fun _=>[.box 24 ((aS b).map .d)]) (fun j q h=>absurd h (YJ _)) (wf) ?_ ?_
 ·intro k p hp hk hI C hC;have dM:(k:Int) < (b.pools.length:Int):=by omega
  have cR:=wi k (by omega);replace hI:=Xj hI;refine xo ?_ ?_<;>intros
  ·rename_i h1;exact tO (O0 hp (by simpa using h1) hI.out)
  ·rename_i h1;refine hC _ _ (fun j q hj hq=>?_) (wf);rcases XP j k with h|h
   ·exact hI.out j q h hq
   ·obtain rfl:j=k:=by omega
    rw[hp]at hq;obtain rfl:=XX.inj hq;simpa using h1
 ·intro hI C;replace hI:=Xj hI;refine am ?_<;>intros;exact tO (C8 hI.out)
theorem C9 (b:Bok)(p:Pol)(l:Lse)(hl:b.pools.length≤1000000000)(ht:0≤b.tick∧b.tick≤1073741824):af prog 105 [.agg (aS b),.agg (ah p),.agg (aV l)] (.v (.bool (eO b p l))):=by
 have db:=il b l.owner (by omega);have cl:IntKind.i64.wrap (b.tick+1)=b.tick+1:=by rw[IntKind.wrap_i64];omega
 have cD:IntKind.i64.wrap (b.tick+1024)=b.tick+1024:=by rw[IntKind.wrap_i64];omega
 have hi:=ep l.owner 1 65536;have Sw:=ep l.till (b.tick+1) (b.tick+1024);obtain⟨R,hR⟩:∃R,R=eO b p l:=⟨_,rfl⟩;rw[←hR];replace hR:=Xj hR;cases hq:bK b l.owner with
 |none=>
  rw[nj hq]at db
  replace hq:=Xj hq;have ur:decide ((-1:Int)≥0)=false:=rfl;refine pj func105 ntmps105 results105 ?_;repeat' (first|(with_reducible refine And.intro ?_ ?_)|(with_reducible refine cn (fun _=>?_) (fun _=>?_))|(with_reducible refine aA (fun _=>?_) (fun _=>?_))|(with_reducible refine be (by kernel_rfl))|simp -dsimp only[go_sem,seval, *,aS,aV,ah,aN,cl,cD,ur]|((with_reducible refine bf ?_);simp -dsimp only[go_sem,seval,aS,aV,ah,aN,cl,cD,ur];first|refine aC (by first|assumption|exact hi|exact db|exact Sw) (by first|exact .inl rfl|exact .inr rfl) ?_|(refine aB (by assumption) ?_ ?_ ?_;(solve|(repeat(first|exact ai.refl _|exact ai.nil _|(refine ai.tup ?_)|(refine ai.agg ?_ rfl)|exact trivial|(refine And.intro ?_ ?_))));(solve|exact .inl rfl|exact .inr rfl)))|fail|omega|exact decide_eq_true (by omega)|exact ai.refl _)
  all_goals exact oF (by rw[hR.out];have hq:=hq.out;unfold eO dV;clear hi db Sw hR;grind)
 |some q=>
  obtain⟨i,e1,e2,e3⟩:=ik hq;rw[e1]at db
  have hge:((i:Int)≥0):=by omega
  have he:=mA q.root l.at_;replace hq:=Xj hq;replace e1:=Xj e1;replace e3:=Xj e3;refine pj func105 ntmps105 results105 ?_;repeat' (first|(with_reducible refine And.intro ?_ ?_)|(with_reducible refine cn (fun _=>?_) (fun _=>?_))|(with_reducible refine aA (fun _=>?_) (fun _=>?_))|(with_reducible refine be (by kernel_rfl))|simp -dsimp only[go_sem,seval, *,aS,aV,ah,aN,cl,cD,he]|((with_reducible refine bf ?_);simp -dsimp only[go_sem,seval,aS,aV,ah,aN,cl,cD,he];first|refine aC (by first|assumption|exact hi|exact db|exact Sw) (by first|exact .inl rfl|exact .inr rfl) ?_|(refine aB (by assumption) ?_ ?_ ?_;(solve|(repeat(first|exact ai.refl _|exact ai.nil _|(refine ai.tup ?_)|(refine ai.agg ?_ rfl)|exact trivial|(refine And.intro ?_ ?_))));(solve|exact .inl rfl|exact .inr rfl)))|fail|omega|exact decide_eq_true (by omega)|exact ai.refl _)
  all_goals exact oF (by rw[hR.out];have hq:=hq.out;unfold eO dV;clear hi db Sw hR;grind)
theorem LO (b:Bok)(p:Pol)(hl:b.pools.length≤1000000000)(fB:∀q∈b.pools,q.leases.length≤1000000000):af prog 104 [.agg (aS b),.agg (ah p)] (.v (.bool (jV b b.pools.length p))):=by
 obtain⟨R,hR⟩:∃R,R=jV b b.pools.length p:=⟨_,rfl⟩;rw[←hR];replace hR:=Xj hR;refine pj func104 ntmps104 results104 ?_;refine am ?_<;>intros;refine bL ae ak (fun m e h=>∃(k:Nat) (q:Pol),k≤b.pools.length+1∧(k≤b.pools.length→R=jV b (b.pools.length - k) q)∧(k=b.pools.length+1→R=false)∧m=b.pools.length+1 - k∧e=[(5,.d (.v (.int .i64 k))),(4,.d (.v (.bool false))),(3,.ptr 1 0),(2,.ptr 0 0)]∧
  h=[.box 24 ((aS b).map .d),.box 62 ((ah q).map .d)]) _ _ _ ⟨0,p,by omega,fun _=>hR.out,fun h=>by omega,rfl,rfl,rfl⟩ (wf) ?_
 rintro m e h ⟨k,q,hk,go,PO,hm,rfl,rfl⟩ C hC;replace hm:=Xj hm;by_cases uI:k≤b.pools.length
 ·have dM:(k:Int)≤(b.pools.length:Int):=by omega
  have cR:=wi k (by omega);have go:=Xj (go uI);replace PO:=Xj PO;have db:=il b q.up (by omega);cases hq:bK b q.up with
  |none=>
   rw[nj hq]at db
   have ur:decide ((-1:Int) < 0)=true:=rfl;replace hq:=Xj hq;refine xo ?_ ?_<;>intros;all_goals exact oF (by
    rename_i h1;cases hn:b.pools.length - k<;>simp_all[jV,hq.out])
  |some u=>
   obtain⟨i,e1,e2,e3⟩:=ik hq;rw[e1]at db
   have j4:decide ((i:Int) < 0)=false:=by simp
   have T5:=fB u (Xl e2);replace hq:=Xj hq;replace e1:=Xj e1;replace e3:=Xj e3;refine xo ?_ ?_<;>intros
   ·exact oF (by
     rename_i h1;cases hn:b.pools.length - k<;>simp_all[jV])
   ·rename_i h1;refine bo ae ak u.leases (fun _=>True) (fun j=>[(8,.d (.v (.int .i64 j))),(7,.d (.v (.bool ((u.leases.take j).any (lw q.id))))),(6,.d (.v (.int .i64 i))),(5,.d (.v (.int .i64 k))),(4,.d (.v (.bool false))),(3,.ptr 1 0),(2,.ptr 0 0)])
     (fun _=>[.box 24 ((aS b).map .d),.box 62 ((ah q).map .d)]) trivial (wf) ?_ ?_
    ·intro j l pm hj _ C hC;have ip:(j:Int) < (u.leases.length:Int):=by omega
     have kj:=wi j (by omega);have dS:(u.leases.take (j+1)).any (lw q.id)=((u.leases.take j).any (lw q.id)||lw q.id l):=by rw[ag pm];simp
     replace dS:=Xj dS;refine Aq ?_ ?_ ?_<;>intros;all_goals
      refine hC _ _ trivial (wf (he:=⟨rfl,?_,rfl,rfl,rfl,rfl,rfl,trivial⟩));refine congrArg (fun x=>PV.d (D.v (Value.bool x))) ?_;rw[dS.out];clear dS hC;generalize (u.leases.take j).any (lw q.id)=A at*;unfold lw;simp_all
    ·intro _ C;(try rw[Xt])
     refine xo ?_ ?_<;>intros
     ·rename_i h2 jI h3 h4;refine hC _ _ _ _ _ ?_ ⟨k+1,u,by omega,fun hlt=>?_,fun he=>?_,rfl,rfl,rfl⟩ (wf)
      ·have:=hm.out;omega
      ·rw[go.out];obtain⟨n,hn⟩:∃n,b.pools.length - k=n+1:=⟨b.pools.length - k - 1,by omega⟩;rw[hn,show b.pools.length - (k+1)=n by omega];simp only[jV,hq.out,‹(q.up==0)=false›,‹u.leases.any (lw q.id)=true›,Yr,ZT]
      ·rw[go.out,show b.pools.length - k=0 by omega];simp_all[jV]
     ·rename_i h2 jI h3 h4;refine oF ?_;cases hn:b.pools.length - k<;>simp only[jV,hq.out,‹(q.up==0)=false›,‹u.leases.any (lw q.id)=false›,Bool.false_and,ZT]
 ·obtain rfl:k=b.pools.length+1:=by omega
  have dM:¬(((b.pools.length+1:Nat):Int)≤(b.pools.length:Int)):=by omega
  have hr:=Xj (PO rfl);clear go PO;replace dM:decide (((b.pools.length+1:Nat):Int)≤(b.pools.length:Int))=false:=by simpa using dM
  refine am ?_<;>intros;exact oF hr.out
def jC (b:Bok)(k:Nat):List Pfx:=((b.pools.take k).filter (fun p=>p.up==0)).map (·.root)
theorem Da {b:Bok}{k:Nat}{p:Pol}(hp:b.pools[k]? =some p):jC b (k+1)=if p.up==0 then jC b k++[p.root]else jC b k:=by
 unfold jC;rw[ag hp,YW,Xo];cases h:p.up==0<;>simp[h]
theorem wv {b:Bok}{k:Nat}{r:Pfx}(hk:k≤b.pools.length):(jC b k).any r.meets=true↔∃(j:Nat) (q:Pol),j < k∧b.pools[j]? =some q∧(q.up==0)=true∧r.meets q.root=true:=by
 unfold jC;rw[List.any_map,List.any_filter,XU];constructor
 ·rintro⟨q,hq,h⟩;obtain⟨j,hj,rfl⟩:=X0.1 hq;simp only[Xq]at hj;simp only[Xy,Function.comp]at h;exact⟨j,_,by omega,Xk (by omega),by simpa using h.1,by simpa using h.2⟩
 ·rintro⟨j,q,hj,hq,h1,h2⟩;refine⟨q,Xl (i:=j) ?_,by simp only[Xy,Function.comp];exact⟨h1,h2⟩⟩;rw[XS hj,hq]
theorem Db {b:Bok}{k:Nat}{p:Pol}(hp:b.pools[k]? =some p):dB b (b.pools.drop k) (jC b k)=((jV b b.pools.length p&&p.leases.all (eO b p))&&(!((p.up==0)&&(jC b k).any p.root.meets)&&dB b (b.pools.drop (k+1)) (jC b (k+1)))):=by
 rw[jx hp,Da hp];simp only[dB];cases h:p.up==0<;>simp
theorem gF (b:Bok)(hz:∀p∈b.pools,p.leases.length≤3518437208882):af prog 37 [.agg (aS b)] (.v (.int .i64 (aZ b))):=by
 have PK:=ep b.tick 0 1073741824;by_cases h8:b.pools.length>8
 ·have Vw:decide ((b.pools.length:Int)>8)=true:=by simp;omega
  have hr:aZ b=2:=by simp[aZ,h8]
  rw[hr];refine pj func37 ntmps37 results37 ?_;exact bc
 ·have Vw:decide ((b.pools.length:Int)>8)=false:=by simp;omega
  by_cases g7:b.tick < 0∨b.tick>1073741824
  ·have hr:aZ b=1:=by simp[aZ,h8,g7]
   have hd:(decide (0≤b.tick)&&decide (b.tick≤1073741824))=false:=by
    rcases g7 with h|h
    ·simp;omega
    ·simp;omega
   rw[hr];rw[hd]at PK;replace hr:=Xj hr;refine pj func37 ntmps37 results37 ?_;exact bc
  ·have ht:0≤b.tick∧b.tick≤1073741824:=by omega
   have hd:(decide (0≤b.tick)&&decide (b.tick≤1073741824))=true:=by simp;omega
   rw[hd]at PK;have hr:aZ b=if ec 0 b.pools&&dB b b.pools []then 0 else 1:=by simp only[aZ,h8,g7,if_false]
   rw[hr];replace hr:=Xj hr;replace ht:=Xj ht;replace hd:=Xj hd;refine pj func37 ntmps37 results37 ?_;refine am ?_<;>intros;refine bL ae ak (fun m e h=>∃(k:Nat) (last:Int),k≤b.pools.length∧ec 0 b.pools=ec last (b.pools.drop k)∧(k=0→last=0)∧(∀j,k=j+1→∃q,b.pools[j]? =some q∧q.id=last)∧m=b.pools.length - k∧e=[(3,.d (.v (.int .i64 k))),(2,.d (.v (.int .i64 0))),(1,.ptr 0 0)]∧
    h=[.box 24 ((aS b).map .d)]) _ _ _ ⟨0,0,XE _,rfl,fun _=>rfl,fun j h=>by omega,rfl,rfl,rfl⟩ (wf) ?_
   rintro m e h ⟨k,last,hk,go,pM,RL,hm,rfl,rfl⟩ C hC;by_cases hlt:k < b.pools.length
   ·have ew:(k:Int) < (b.pools.length:Int):=by omega
    have cR:=wi k (by omega);obtain⟨p,hp⟩:∃p,b.pools[k]? =some p:=⟨_,Xk hlt⟩;have oQ:p∈b.pools:=Xl hp;rw[jx hp]at go;simp only[ec]at go;have hi:=ep p.id 1 65536;have g7:=zp p (hz p oQ);have PG:=AA p.root (dw p);unfold dw at PG;have xg:=qj p.rule p.root;replace go:=Xj go;replace hm:=Xj hm;rcases ZJ k with hk0|hk0
    ·have VX:decide ((k:Int)>0)=false:=by simp;omega
     have pM:=Xj (pM hk0);replace hk0:=Xj hk0;clear RL;refine Sk ?_ ?_ ?_ ?_<;>intros;all_goals have pM:=pM.out
     all_goals first
      |(refine hC _ _ _ _ _ ?_ ⟨k+1,p.id,hlt,?_,fun h=>by omega,fun j h=>⟨p,by rw[show j=k by omega];exact hp,rfl⟩,rfl,rfl,rfl⟩ (wf);(have:=hm.out;omega);(rw[go.out];clear hC hi g7 PG xg hz go hm hr ht PK;unfold dV dw;grind))
      |exact tO (by
       have hf:ec 0 b.pools=false:=by
        rw[go.out];clear hC hi g7 PG xg hz go hm hr ht PK;unfold dV dw;grind
       rw[hf];rfl)
    ·have VX:decide ((k:Int)>0)=true:=by simp;omega
     obtain⟨j,hj⟩:∃j,k=j+1:=⟨k - 1,by omega⟩;obtain⟨q,hq,s6⟩:=RL j hj;have kj:IntKind.i64.wrap ((k:Int) - 1)=(j:Int):=by rw[IntKind.wrap_i64];omega
     replace s6:=Xj s6;replace hj:=Xj hj;replace hk0:=Xj hk0;clear pM RL;repeat' (first|(with_reducible refine And.intro ?_ ?_)|(with_reducible refine cn (fun _=>?_) (fun _=>?_))|(with_reducible refine aA (fun _=>?_) (fun _=>?_))|(with_reducible refine be (by kernel_rfl))|simp -dsimp only[go_sem,seval, *,aS,ah,ew,cR,hp,VX,kj,hq,undef]|((with_reducible refine bf ?_);simp -dsimp only[go_sem,seval,aS,ah,ew,cR,hp,VX,kj,hq,undef];first|refine aC (by first|assumption|exact hi|exact g7|exact PG|exact xg) (by first|exact .inl rfl|exact .inr rfl) ?_|(refine aB (by assumption) ?_ ?_ ?_;(solve|(repeat(first|exact ai.refl _|exact ai.nil _|(refine ai.tup ?_)|(refine ai.agg ?_ rfl)|exact trivial|(refine And.intro ?_ ?_))));(solve|exact .inl rfl|exact .inr rfl)))|fail|omega|exact decide_eq_true (by omega)|exact ai.refl _)
     all_goals have s6:=s6.out
     all_goals first
      |(refine hC _ _ _ _ _ ?_ ⟨k+1,p.id,hlt,?_,fun h=>by omega,fun j h=>⟨p,by rw[show j=k by omega];exact hp,rfl⟩,rfl,rfl,rfl⟩ (wf);(have:=hm.out;omega);(rw[go.out];clear hC hi g7 PG xg hz go hm hr ht PK;unfold dV dw;grind))
      |exact tO (by
       have hf:ec 0 b.pools=false:=by
        rw[go.out];clear hC hi g7 PG xg hz go hm hr ht PK;unfold dV dw;grind
       rw[hf];rfl)
   ·obtain rfl:k=b.pools.length:=by omega
    rw[Y7]at go;have hf:ec 0 b.pools=true:=by rw[go];rfl
    obtain⟨M5,-⟩:=kA _ _ hf;have fU:=lJ _ _ hf;have nL:∀p∈b.pools,p.leases.length≤32:=fun p hp=>by
     have:=(fU p hp).2.1;unfold hU at this;split at this
     ·cases this
     ·rename_i h;simpa[dw]using h
    rw[hf];replace hf:=Xj hf;replace fU:=Xj fU;clear go hm pM RL hC;refine am ?_<;>intros;refine qR ae ak b.pools.length (fun k=>dB b b.pools []=dB b (b.pools.drop k) (jC b k)) (fun k=>[(5,.d (.v (.int .i64 k))),(2,.d (.v (.int .i64 0))),(1,.ptr 0 0)]) (fun _=>[.box 24 ((aS b).map .d)]) rfl (wf) ?_ ?_
    ·intro k hlt hI C hC;have ew:(k:Int) < (b.pools.length:Int):=by omega
     have cR:=wi k (by omega);obtain⟨p,hp⟩:∃p,b.pools[k]? =some p:=⟨_,Xk hlt⟩;have oQ:p∈b.pools:=Xl hp;rw[Db hp]at hI;have go:=LO b p (by omega) (fun q hq=>by have:=nL q hq;omega);have iP:=nL p oQ;replace hI:=Xj hI;refine xo ?_ ?_<;>intros
     ·rename_i hu;refine bo ae ak p.leases (fun j=>∀i (l:Lse),i < j→p.leases[i]? =some l→eO b p l=true) (fun j=>[(7,.d (.v (.int .i64 j))),(6,.ptr 1 0),(5,.d (.v (.int .i64 k))),(2,.d (.v (.int .i64 0))),(1,.ptr 0 0)]) (fun _=>[.box 24 ((aS b).map .d),.box 62 ((ah p).map .d)]) (fun i l h=>absurd h (YJ _)) (wf) ?_ ?_
      ·intro j l pm hj Sa C hC;have ip:(j:Int) < (p.leases.length:Int):=by omega
       have kj:=wi j (by omega);have hlf:=C9 b p l (by omega) ht.out;replace Sa:=Xj Sa;refine xo ?_ ?_<;>intros
       ·rename_i jb;refine hC _ _ (fun i l' hi hl'=>?_) (wf);rcases XP i j with h|h
        ·exact Sa.out i l' h hl'
        ·obtain rfl:i=j:=by omega
         rw[pm]at hl';obtain rfl:=XX.inj hl';exact jb
       ·rename_i jb;refine tO ?_;have bP:p.leases.all (eO b p)=false:=by
         rw[Y2];exact⟨l,Xl pm,by rw[jb];simp⟩
        rw[hI.out,bP];simp
      ·intro Sa C1;have bP:p.leases.all (eO b p)=true:=by
        rw[XC];intro l hl;obtain⟨i,hi,rfl⟩:=X0.1 hl;exact Sa i _ hi (Xk hi)
       replace Sa:=Xj Sa;replace bP:=Xj bP;refine am ?_<;>intros;refine qR ae ak k (fun j=>∀i (q:Pol),i < j→b.pools[i]? =some q→((p.up==0)&&(q.up==0)&&p.root.meets q.root)=false) (fun j=>[(8,.d (.v (.int .i64 j))),(6,.ptr 1 0),(5,.d (.v (.int .i64 k))),(2,.d (.v (.int .i64 0))),(1,.ptr 0 0)]) (fun _=>[.box 24 ((aS b).map .d),.box 62 ((ah p).map .d)]) (fun i l h=>absurd h (YJ _)) (wf) ?_ ?_
       ·intro j hj Sb C hC;have ip:(j:Int) < (k:Int):=by omega
        have kj:=wi j (by omega);obtain⟨q,hq⟩:∃q,b.pools[j]? =some q:=⟨_,Xk (by omega)⟩;have nN:=p5 p.root q.root;rw[fg]at nN;replace Sb:=Xj Sb;have key:∀t,((p.up==0)&&(q.up==0)&&p.root.meets q.root)=t→t=false→∀i (q:Pol),i < j+1→b.pools[i]? =some q→((p.up==0)&&(q.up==0)&&p.root.meets q.root)=false:=by
         intro t h1 h2 i q' hi hq';rcases XP i j with h|h
         ·exact Sb.out i q' h hq'
         ·obtain rfl:i=j:=by omega
          rw[hq]at hq';obtain rfl:=XX.inj hq';rw[h1,h2]
        have bad:((p.up==0)&&(q.up==0)&&p.root.meets q.root)=true→dB b b.pools []=false:=fun h=>by
         simp only[Xy]at h;have:(jC b k).any p.root.meets=true:=(wv (by omega)).2 ⟨j,q,hj,hq,h.1.2,h.2⟩;rw[hI.out,this,h.1.1];simp
        replace key:=Xj key;replace bad:=Xj bad;refine Sk ?_ ?_ ?_ ?_<;>intros;all_goals first
         |(refine hC _ _ (key.out _ ?_ rfl) (wf);clear hC nN;grind)
         |exact tO (by rw[bad.out (by clear hC nN;grind)];simp)
       ·intro Sb C1;have cg:((p.up==0)&&(jC b k).any p.root.meets)=false:=by
         cases h:p.up==0 with
         |false=>rfl
         |true=>
          cases h2:(jC b k).any p.root.meets with
          |false=>rfl
          |true=>
           obtain⟨i,q,hi,hq,h3,h4⟩:=(wv (by omega)).1 h2;have:=Sb i q hi hq;rw[h,h3,h4]at this;exact absurd this (by simp)
        replace Sb:=Xj Sb;replace cg:=Xj cg;refine am ?_<;>intros;refine hC _ _ ?_ (wf);rw[hI.out,hu,bP.out,cg.out];rfl
     ·rename_i hu;refine tO ?_;rw[hI.out,hu];simp
    ·intro hI C;replace hI:=Xj hI;refine am ?_<;>intros;refine tO ?_;rw[hI.out,Y7];rfl
theorem iK (b:Bok)(h8:b.pools.length≤8)(fB:∀p∈b.pools,p.leases.length≤32):
 MSpec prog 20 [.d (.agg (aS b))] [] (.agg [.d (.v (.int .i64 b.tick)),.own 3 b.pools.length]) [.gone,.gone,.gone,.row 62 9 b.pools.length (ab (b.pools.map ah))]:=by
 refine mj func20 ntmps20 results20 ?_;refine am ?_<;>intros;refine bo ae ak b.pools (fun _=>True) (fun k=>[(4,.d (.v (.int .i64 k))),(3,.ptr 2 0),(2,.ptr 1 0),(1,.ptr 0 0)])
  (fun k=>[.box 24 ((aS b).map .d),.box 24 [.d (.v (.int .i64 0)),.d (.v (.slice none 0 0))],.box 24 [.d (.v (.int .i64 b.tick)),.own 3 k],.row 62 9 k (ab ((b.pools.take k).map ah))]) trivial ?_ ?_ ?_
 ·refine(au (by simp) 2 24 [.d (.v (.int .i64 b.tick)),.d (.v (.slice none 0 0))] 1 62 9 rfl rfl rfl).trans ?_;exact wf
 ·intro k p hp hk _ C hC;have dM:(k:Int) < (b.pools.length:Int):=by omega
  have cR:=wi k (by omega);have iP:=fB p (Xl hp);have jf:k+1≤100:=by omega
  have hlt:(Yg k b.pools).length=k:=by rw[Xq];omega
  refine am ?_<;>intros;refine hC _ _ trivial ((ap 5 1 68 5 (p.leases.map aV) rfl).trans ?_);simp only[iD,fz,gy,gj,g8,f9,aR,bS,bW,Xm,Xv,XM,XL,reduceIte,and_true,true_and,and_self,and_false,false_and,XG,XW,reduceCtorEq];exact wf (hh:=(by rw[ag hp,Xo,Xm,Xv,←aI];rfl))
 ·intro _ C;refine am ?_<;>intros;(try rw[Xt])
  refine(aL 0 (by simp)).trans ?_;refine(aL 1 (by simp[bw])).trans ?_;exact(aL 2 (by simp[bw])).trans (bn rfl rfl)
theorem GL {α:Type}{key:α→Int}{t:Int}{l:List α}{k:Nat}{q:α}(hk:k < jg key t l)(hq:l[k]? =some q):key q < t:=by
 obtain⟨hl,rfl⟩:=Xn.1 hq;have:=List.not_of_lt_findIdx hk;simp at this;omega
theorem GM {α:Type}{key:α→Int}{t:Int}{l:List α}{q:α}(hq:l[jg key t l]? =some q):t≤key q:=by
 obtain⟨hl,rfl⟩:=Xn.1 hq;have:=List.findIdx_getElem (xs:=l) (p:=fun x=>decide (t≤key x)) (w:=hl);exact of_decide_eq_true this
theorem ID (b:Bok)(p:Pol)(h8:b.pools.length≤8)(cg:bK b p.id=none):af prog 222 [.agg (aS b),.agg (ah p)] (.agg (aS ⟨b.tick,k9 p b.pools⟩)):=by
 obtain⟨n0,pi⟩:∃n0,n0=jg (fun x:Pol=>x.id) p.id b.pools:=⟨_,rfl⟩;have VY:n0≤b.pools.length:=by rw[pi];exact o4 _ _ _
 have jb:∀k q,k < n0→b.pools[k]? =some q→q.id < p.id:=fun k q hk hq=>GL (key:=fun x:Pol=>x.id) (by rw[←pi];exact hk) hq;have j7:∀q,b.pools[n0]? =some q→p.id < q.id:=fun q hq=>by
  have h1:=GM (key:=fun x:Pol=>x.id) (t:=p.id) (l:=b.pools) (q:=q) (by rw[←pi];exact hq);have h2:=Yq.1 cg q (Xl hq);simp at h1 h2;omega
 have fu:k9 p b.pools=b.pools.take n0++p::b.pools.drop n0:=by unfold k9;rw[←pi]
 replace pi:=Xj pi;replace fu:=Xj fu;refine pj func222 ntmps222 results222 ?_;refine am ?_<;>intros;refine bL ae ak (fun m e h=>∃(k:Nat) (out:List Pol) (f:Bool),k≤b.pools.length∧out.length≤k+1∧((f=false∧k≤n0∧out=b.pools.take k)∨(f=true∧n0 < k∧out++b.pools.drop k=k9 p b.pools))∧m=b.pools.length - k∧
  e=[(7,.d (.v (.int .i64 k))),(6,.d (.v (.bool f))),(5,.ptr 3 0),(4,.ptr 2 0),(3,.ptr 1 0),(2,.ptr 0 0)]∧
  h=[.box 24 ((aS b).map .d),.box 62 ((ah p).map .d),.box 24 [.d (.v (.int .i64 0)),.d (.v (.slice none 0 0))],.box 24 [.d (.v (.int .i64 b.tick)),.own 4 out.length],.row 62 9 out.length (ab (out.map ah))]) _ _ _ ⟨0,[],false,XE _,XE _,.inl ⟨rfl,XE _,rfl⟩,rfl,rfl,rfl⟩ ?_ ?_
 ·refine(au (by simp) 3 24 [.d (.v (.int .i64 b.tick)),.d (.v (.slice none 0 0))] 1 62 9 rfl rfl rfl).trans ?_;exact wf
 ·rintro m e h ⟨k,out,f,hk,nQ,fq,hm,rfl,rfl⟩ C hC;replace hm:=Xj hm;replace fq:=Xj fq;have jf:out.length+1+1≤100:=by omega
  have jm:out.length+1≤100:=by omega
  by_cases hlt:k < b.pools.length
  ·have dM:(k:Int) < (b.pools.length:Int):=by omega
   have cR:=wi k (by omega);obtain⟨q,hq⟩:∃q,b.pools[k]? =some q:=⟨_,Xk hlt⟩;have Ef:=Xj (jx hq);have jb:=Xj (fun h=>jb k q h hq);have j7:=Xj (fun h:k=n0=>j7 q (by rw[←h];exact hq));refine Aq ?_ ?_ ?_<;>intros
   ·refine hC _ _ _ _ _ ?_ ⟨k+1,out++[q],true,by omega,by simp;omega,.inr ⟨rfl,?_,?_⟩,rfl,rfl,rfl⟩ (wf (hh:=(by simp only[aS,ah,Xo,Xm,Xv,XY,XA,XZ,X4];rfl)))
    ·have:=hm.out;omega
    ·have:=fq.out;grind
    ·have:=fq.out;have:=Ef.out;grind
   ·refine hC _ _ _ _ _ ?_ ⟨k+1,out++[p]++[q],true,by omega,by have:=fq.out;simp;grind,.inr ⟨rfl,?_,?_⟩,rfl,rfl,rfl⟩ (wf (hh:=(by simp only[aS,ah,Xo,Xm,Xv,XY,XA,XZ,X4];rfl)))
    ·have:=hm.out;omega
    ·have:=fq.out;grind
    ·have h1:=fq.out;have:=Ef.out;have hle:k≤n0∧out=b.pools.take k:=by grind
     have Hg:k=n0:=by
      rcases XP k n0 with h|h
      ·have:=jb.out h;have h2:=of_decide_eq_true ‹decide (q.id>p.id)=true›;omega
      ·omega
     rw[fu.out,hle.2,←Hg,this];simp
   ·refine hC _ _ _ _ _ ?_ ⟨k+1,out++[q],false,by omega,by simp;omega,.inl ⟨rfl,?_,?_⟩,rfl,rfl,rfl⟩ (wf (hh:=(by simp only[aS,ah,Xo,Xm,Xv,XY,XA,XZ,X4];rfl)))
    ·have:=hm.out;omega
    ·have h1:=fq.out;rcases XP k n0 with h|h
     ·exact h
     ·have Hg:k=n0:=by grind
      have:=j7.out Hg;rename_i h2;simp at h2;omega
    ·have h1:=fq.out;rw[ag hq];grind
  ·obtain rfl:k=b.pools.length:=by omega
   refine xo ?_ ?_<;>intros
   ·rw[show k9 p b.pools=out from by have h1:=fq.out;grind];exact ai.refl _
   ·rw[show k9 p b.pools=out++[p] from by
     have h1:=fq.out;rw[fu.out];have Hg:n0=b.pools.length:=by grind
     rw[Hg];grind]
    rw[Xo];exact ai.refl _
theorem zq (b:Bok)(p:Pol)(g:Nat)(d:D)(h8:b.pools.length≤8)(cg:bK b p.id=none)(hd:ai d (.agg (ah p))):
 MSpec prog 222 [.agg [.d (.v (.int .i64 b.tick)),.own 0 g],.d d] [.row 62 9 g (ab (b.pools.map ah))] (.d (.agg (aS ⟨b.tick,k9 p b.pools⟩))) [.gone]:=
 (vz (ID b p h8 cg) (args:=[.agg [.d (.v (.int .i64 b.tick)),.own 0 g],.d (.agg (ah p))]) (h0:=[.row 62 9 g (ab (b.pools.map ah))]) (by simp[an,aq]) (by simp[aH,aQ,az]) (by simp[vw,cM,bq,aG,eJ,aS]) (by simp[tc,jq,cW,aG,nZ])).lep ⟨.inl rfl,.inr ⟨_,_,rfl,rfl,hd⟩,trivial⟩ (by simp[an,aq])
theorem Bok.zero_le:ai (.agg [.v (.int .i64 0),.v (.slice none 0 0)]) (.agg (aS Bok.zero)):=dg
theorem LP (b:Bok)(id:Int)(root:Pfx)(r:Rul)(hz:∀p∈b.pools,p.leases.length≤3518437208882):af prog 160 [.agg (aS b),.v (.int .i64 id),.agg (aN root),.agg (pp r)] (.tup [.agg (aS (fS b id root r).1),.v (.int .i64 (fS b id root r).2)]):=by
 obtain⟨R,hR⟩:∃R,R=fS b id root r:=⟨_,rfl⟩;rw[←hR];replace hR:=Xj hR;have a9:=gF b hz;by_cases hc:aZ b=0
 ·have co:=dI hc;have h8:=co.n8;have hid:=ep id 1 65536;have D1:=vF root;have xg:=qj r root;have db:=il b id (by omega);have gp:=iK b co.n8 co.l32;have aP:R=if nC b id root r≠0 then (Bok.zero,nC b id root r)else (⟨b.tick,k9 ⟨id,0,root,r,[]⟩ b.pools⟩,0):=by rw[hR.out];unfold fS;rw[if_neg (by simpa using hc)]
  unfold nC dV at aP;have pt:bE root.at_ root.len=(chk root.at_ root.len==0):=rfl;replace pt:=Xj pt;replace aP:=Xj aP;rw[hc]at a9;replace hc:=Xj hc;clear hR;cases hq:bK b id with
  |none=>
   have Hc:=zq b ⟨id,0,root,r,[]⟩ b.pools.length (.agg [.v (.int .i64 id),.v (.int .i64 0),.v (.int .i64 root.at_),.v (.int .i64 root.len),.v (.int .i64 r.min),.v (.int .i64 r.max),.v (.int .i64 r.usual),.v (.int .i64 r.cool),.v (.slice none 0 0)]) co.n8 hq dg;rw[nj hq]at db
   have ur:decide ((-1:Int)≥0)=false:=rfl;replace hq:=Xj hq;clear co;refine pj func160 ntmps160 results160 ?_;refine Aq ?_ ?_ ?_<;>intros
   ·refine bo ae ak b.pools (fun k=>∀j (q:Pol),j < k→b.pools[j]? =some q→((q.up==0)&&q.root.meets root)=false) (fun k=>[(11,.d (.v (.int .i64 k))),(9,.d (.v (.int .i64 0))),(8,.ptr 3 0),(7,.ptr 2 0),(6,.ptr 1 0),(4,.ptr 0 0),(1,.d (.v (.int .i64 id)))])
     (fun _=>[.box 24 ((aS b).map .d),.box 32 ((aN root).map .d),.box 34 ((pp r).map .d),.box 24 [.d (.v (.int .i64 0)),.d (.v (.slice none 0 0))]]) (fun j q h=>absurd h (YJ _)) (wf) ?_ ?_
    ·intro k q Xb hk hI C hC;have dM:(k:Int) < (b.pools.length:Int):=by omega
     have cR:=wi k (by omega);have nN:=p5 q.root root;rw[fg]at nN;have key:∀t,((q.up==0)&&q.root.meets root)=t→t=false→∀j (q:Pol),j < k+1→b.pools[j]? =some q→((q.up==0)&&q.root.meets root)=false:=by
      intro t h1 h2 j q' hj hq';rcases XP j k with h|h
      ·exact hI j q' h hq'
      ·obtain rfl:j=k:=by omega
       rw[Xb]at hq';obtain rfl:=XX.inj hq';rw[h1,h2]
     have bad:((q.up==0)&&q.root.meets root)=true→(b.pools.any fun p=>(p.up==0)&&p.root.meets root)=true:=fun h=>XU.2 ⟨q,Xl Xb,h⟩;replace key:=Xj key;replace bad:=Xj bad;replace hI:=Xj hI;refine Aq ?_ ?_ ?_<;>intros;all_goals clear hz a9 hid D1 xg db gp Hc nN
     all_goals first
      |(refine hC _ _ (key.out _ ?_ rfl) (wf);clear hC;grind)
      |(have hb:=bad.out (by clear hC;grind);clear hC;have hq:=hq.out;have pt:=pt.out;(rw[show R=(Bok.zero,6) from (by rw[aP.out];grind)];(try simp only[Xo,Xm]);exact dg))
    ·intro hI C1;have iy:(b.pools.any fun p=>(p.up==0)&&p.root.meets root)=false:=by
      rw[Yh];intro q hq;obtain⟨j,hj,rfl⟩:=X0.1 hq;rw[hI j _ hj (Xk hj)];simp
     replace hI:=Xj hI;replace iy:=Xj iy;have z1z:=Ln.mk (ls:=[]) (gp);have z2z:=Ln.mk (ls:=[7]) (Hc);refine Aq ?_ ?_ ?_<;>intros;all_goals clear hz a9 hid D1 xg db gp Hc
     all_goals have hq:=hq.out
     all_goals have pt:=pt.out
     all_goals have iy:=iy.out
     all_goals first
      |(rw[show R=(Bok.zero,1) from (by rw[aP.out];grind)];(try simp only[Xo,Xm]);exact dg)
      |(rw[show R=(Bok.zero,2) from (by rw[aP.out];grind)];(try simp only[Xo,Xm]);exact dg)
      |(rw[show R=(⟨b.tick,k9 ⟨id,0,root,r,[]⟩ b.pools⟩,0) from (by rw[aP.out];grind)];(try simp only[Xo,Xm]);exact dg)
   all_goals(clear hz a9 hid D1 xg db gp Hc;have pt:=pt.out;(rw[show R=(Bok.zero,3) from (by rw[aP.out];grind)];(try simp only[Xo,Xm]);exact dg))
  |some q=>
   obtain⟨i,e1,e2,e3⟩:=ik hq;rw[e1]at db
   have j4:decide ((i:Int)≥0)=true:=by simp
   clear co e1 e2 e3;replace hq:=Xj hq;refine pj func160 ntmps160 results160 ?_;refine Aq ?_ ?_ ?_<;>intros;all_goals clear hz a9 hid D1 xg db gp
   all_goals have pt:=pt.out
   all_goals have hq:=hq.out
   all_goals first
    |(rw[show R=(Bok.zero,3) from (by rw[aP.out];grind)];(try simp only[Xo,Xm]);exact dg)
    |(rw[show R=(Bok.zero,6) from (by rw[aP.out];grind)];(try simp only[Xo,Xm]);exact dg)
 ·have h1:(aZ b !=0)=true:=by simpa using hc
  have hr:R=(Bok.zero,aZ b):=by rw[hR.out];unfold fS;rw[if_pos hc]
  rw[hr];replace hr:=Xj hr;clear hR;refine pj func160 ntmps160 results160 ?_;refine am ?_<;>intros;exact dg
theorem LQ {root:Pfx}{us:List Pfx}{size:Int}(h0:hU root us=0)(h1:root.len≤size∧size≤16):lv root us size=((nG root us size).1,(nG root us size).2,0):=by
 unfold lv nG;rw[if_pos h0,if_neg (by omega)];cases(iZ root us).find? (fun q=>decide (q.len≤size))<;>rfl
theorem ww (p:Pol)(l:Lse)(fB:p.leases.length≤32)(cg:∀x∈p.leases,x.at_.at_≠l.at_.at_):af prog 167 [.agg (ah p),.agg (aV l)] (.agg (ah {p with leases:=ic l p.leases})):=by
 obtain⟨n0,pi⟩:∃n0,n0=jg (fun x:Lse=>x.at_.at_) l.at_.at_ p.leases:=⟨_,rfl⟩;have VY:n0≤p.leases.length:=by rw[pi];exact o4 _ _ _
 have jb:∀k q,k < n0→p.leases[k]? =some q→q.at_.at_ < l.at_.at_:=fun k q hk hq=>GL (key:=fun x:Lse=>x.at_.at_) (by rw[←pi];exact hk) hq;have j7:∀q,p.leases[n0]? =some q→l.at_.at_ < q.at_.at_:=fun q hq=>by
  have h1:=GM (key:=fun x:Lse=>x.at_.at_) (t:=l.at_.at_) (l:=p.leases) (q:=q) (by rw[←pi];exact hq);have h2:=cg q (Xl hq);have h1:l.at_.at_≤q.at_.at_:=h1;omega
 have fu:ic l p.leases=p.leases.take n0++l::p.leases.drop n0:=by unfold ic;rw[←pi]
 replace pi:=Xj pi;replace fu:=Xj fu;refine pj func167 ntmps167 results167 ?_;refine am ?_<;>intros;refine bL ae ak (fun m e h=>∃(k:Nat) (out:List Lse) (f:Bool),k≤p.leases.length∧out.length≤k+1∧((f=false∧k≤n0∧out=p.leases.take k)∨(f=true∧n0 < k∧out++p.leases.drop k=ic l p.leases))∧m=p.leases.length - k∧
  e=[(7,.d (.v (.int .i64 k))),(6,.d (.v (.bool f))),(5,.own 3 out.length),(4,.ptr 2 0),(3,.ptr 1 0),(2,.ptr 0 0)]∧
  h=[.box 62 ((ah p).map .d),.box 68 ((aV l).map .d),.box 62 [.d (.v (.int .i64 0)),.d (.v (.int .i64 0)),.d (.v (.int .i64 0)),.d (.v (.int .i64 0)),.d (.v (.int .i64 0)),.d (.v (.int .i64 0)),.d (.v (.int .i64 0)),.d (.v (.int .i64 0)),.d (.v (.slice none 0 0))],.row 68 5 out.length (ab (out.map aV))]) _ _ _ ⟨0,[],false,XE _,XE _,.inl ⟨rfl,XE _,rfl⟩,rfl,rfl,rfl⟩ ?_ ?_
 ·refine(dr (by simp) 5 68 5 rfl).trans ?_;exact wf
 ·rintro m e h ⟨k,out,f,hk,nQ,fq,hm,rfl,rfl⟩ C hC;replace hm:=Xj hm;replace fq:=Xj fq;have jf:out.length+1+1≤100:=by omega
  have jm:out.length+1≤100:=by omega
  by_cases hlt:k < p.leases.length
  ·have dM:(k:Int) < (p.leases.length:Int):=by omega
   have cR:=wi k (by omega);obtain⟨q,hq⟩:∃q,p.leases[k]? =some q:=⟨_,Xk hlt⟩;have Ef:=Xj (jx hq);have jb:=Xj (fun h=>jb k q h hq);have j7:=Xj (fun h:k=n0=>j7 q (by rw[←h];exact hq));refine Aq ?_ ?_ ?_<;>intros
   ·refine hC _ _ _ _ _ ?_ ⟨k+1,out++[q],true,by omega,by simp;omega,.inr ⟨rfl,?_,?_⟩,rfl,rfl,rfl⟩ (wf (hh:=(by simp only[ah,aV,Xo,Xm,Xv,XY,XA,XZ,X4];rfl)) (he:=(by(repeat' (first|exact trivial|(refine⟨?_,?_⟩)|rfl|(simp only[XY,XA,XZ];rfl))))))
    ·have:=hm.out;omega
    ·have:=fq.out;grind
    ·have:=fq.out;have:=Ef.out;grind
   ·refine hC _ _ _ _ _ ?_ ⟨k+1,out++[l]++[q],true,by omega,by have:=fq.out;simp;grind,.inr ⟨rfl,?_,?_⟩,rfl,rfl,rfl⟩ (wf (hh:=(by simp only[ah,aV,Xo,Xm,Xv,XY,XA,XZ,X4];rfl)) (he:=(by(repeat' (first|exact trivial|(refine⟨?_,?_⟩)|rfl|(simp only[XY,XA,XZ];rfl))))))
    ·have:=hm.out;omega
    ·have:=fq.out;grind
    ·have h1:=fq.out;have:=Ef.out;have hle:k≤n0∧out=p.leases.take k:=by grind
     have Hg:k=n0:=by
      rcases XP k n0 with h|h
      ·have:=jb.out h;have h2:=of_decide_eq_true ‹decide (q.at_.at_>l.at_.at_)=true›;omega
      ·omega
     rw[fu.out,hle.2,←Hg,this];simp
   ·refine hC _ _ _ _ _ ?_ ⟨k+1,out++[q],false,by omega,by simp;omega,.inl ⟨rfl,?_,?_⟩,rfl,rfl,rfl⟩ (wf (hh:=(by simp only[ah,aV,Xo,Xm,Xv,XY,XA,XZ,X4];rfl)) (he:=(by(repeat' (first|exact trivial|(refine⟨?_,?_⟩)|rfl|(simp only[XY,XA,XZ];rfl))))))
    ·have:=hm.out;omega
    ·have h1:=fq.out;rcases XP k n0 with h|h
     ·exact h
     ·have Hg:k=n0:=by grind
      have:=j7.out Hg;rename_i h2;simp at h2;omega
    ·have h1:=fq.out;rw[ag hq];grind
  ·obtain rfl:k=p.leases.length:=by omega
   refine xo ?_ ?_<;>intros
   ·rw[show ic l p.leases=out from by have h1:=fq.out;grind];exact ai.refl _
   ·rw[show ic l p.leases=out++[l] from by
     have h1:=fq.out;rw[fu.out];have Hg:n0=p.leases.length:=by grind
     rw[Hg];grind]
    rw[Xo];exact ai.refl _
def dx (p:Pol)(size:Int):Pfx × Bool:=if 32≤p.leases.length then (Pfx.zero,false)else nG p.root (dw p) size
theorem IE {root:Pfx}{us:List Pfx}{size:Int}(h:SpaceOK root us)(hf:(nG root us size).2=true):∀u∈us,u.at_≠(nG root us size).1.at_:=by
 unfold nG at hf ⊢;cases hq:(iZ root us).find? (fun q=>decide (q.len≤size))with
 |none=>rw[hq]at hf;simp at hf
 |some q=>
  obtain⟨g1,g2⟩:=qc h (YF hq);intro u hu he;have he:u.at_=q.at_:=he;have r5:=(cA.1 g1).1;have ki:=(cA.1 (h.ins u hu)).1;have hm:q.meets u=true:=dU.2 ⟨r5,ki,by have:=Pfx.hi_bd ki;omega,by have:=Pfx.hi_bd r5;omega⟩;unfold i4 at g2;rw[XU.2 ⟨u,hu,hm⟩]at g2;exact absurd g2 (by simp)
theorem Dc {p:Pol}{size:Int}(h:hU p.root (dw p)=0)(hr:fH p.rule p.root.len=true)(h1:p.rule.min≤size)(h2:size≤p.rule.max):cC p size=if (dx p size).2=true then ((dx p size).1,0)else (Pfx.zero,8):=by
 have nF:p.root.len≤size∧size≤16:=by
  unfold fH at hr;simp[gm]at hr;omega
 have fB:p.leases.length≤32:=by have:=(rn.1 h).many;simpa[dw]using this
 unfold cC dx;rw[if_neg (by omega),LQ h nF];by_cases h3:32≤p.leases.length
 ·have h4:p.leases.length=32:=by omega
  simp[h3,h4]
 ·have h4:¬p.leases.length=32:=by omega
  rw[if_neg h3];cases hb:(nG p.root (dw p) size).2<;>simp[h4]
theorem LR (p:Pol)(size:Int)(h:hU p.root (dw p)=0)(h1:p.root.len≤size)(h2:size≤16):af prog 166 [.agg (ah p),.v (.int .i64 size)] (.tup [.agg (aN (dx p size).1),.v (.bool (dx p size).2)]):=by
 have fB:p.leases.length≤32:=by have:=(rn.1 h).many;simpa[dw]using this
 have nJ:=zp p (by omega);have Pu:=Oy p.root (dw p) size (rn.1 h) h1 h2;unfold dw at Pu;by_cases h3:32≤p.leases.length
 ·have h3I:decide ((p.leases.length:Int)≥32)=true:=by simp;omega
  have hr:dx p size=(Pfx.zero,false):=by unfold dx;rw[if_pos h3]
  rw[hr];replace hr:=Xj hr;refine pj func166 ntmps166 results166 ?_;exact bc
 ·have h3I:decide ((p.leases.length:Int)≥32)=false:=by simp;omega
  have hr:dx p size=nG p.root (p.leases.map (·.at_)) size:=by unfold dx dw;rw[if_neg h3]
  rw[hr];replace hr:=Xj hr;refine pj func166 ntmps166 results166 ?_;exact bc
theorem rA {b:Bok}{i:Nat}{p:Pol}(hr:m9 b.pools)(hp:b.pools[i]? =some p)(f:Pol→Pol):rq b p.id f=⟨b.tick,b.pools.set i (f p)⟩:=by
 unfold rq;congr 1;obtain⟨hi,he⟩:=Xn.1 hp;apply Yj;intro j;rw[Xz,Z3];by_cases hij:i=j
 ·subst hij;rw[hp];simp[hi]
 ·rw[if_neg hij];cases hq:b.pools[j]? with
  |none=>rfl
  |some q=>
   obtain⟨hj,pu⟩:=Xn.1 hq;have bB:q.id≠p.id:=by
    rcases H' hij with h|h
    ·have:=XF.1 hr i j hi hj h;rw[he,pu]at this;omega
    ·have:=XF.1 hr j i hj hi h;rw[he,pu]at this;omega
   simp[bB]
theorem Dd {p:Pol}{size:Int}(h:hU p.root (dw p)=0)(hf:(dx p size).2=true):∀x∈p.leases,x.at_.at_≠(dx p size).1.at_:=by
 unfold dx at hf ⊢;split at hf
 ·cases hf
 ·rename_i h3;rw[if_neg h3];intro x hx;exact IE (rn.1 h) hf x.at_ (XQ.2 ⟨x,hx,rfl⟩)
theorem De (b:Bok)(id size owner:Int)(hz:∀p∈b.pools,p.leases.length≤3518437208882):af prog 81 [.agg (aS b),.v (.int .i64 id),.v (.int .i64 size),.v (.int .i64 owner)] (.tup [.agg (aS (cS b id size owner).1),.agg (aN (cS b id size owner).2.1),.v (.int .i64 (cS b id size owner).2.2)]):=by
 obtain⟨R,hR⟩:∃R,R=cS b id size owner:=⟨_,rfl⟩;rw[←hR];replace hR:=Xj hR;have a9:=gF b hz;by_cases hc:aZ b=0
 ·have co:=dI hc;have h8:=co.n8;have hid:=ep owner 1 65536;have db:=il b id (by omega);cases hq:bK b id with
  |none=>
   have hr:R=(Bok.zero,Pfx.zero,5):=by rw[hR.out];unfold cS;rw[if_neg (by simpa using hc),hq]
   rw[hr];rw[hc]at a9;rw[nj hq]at db
   have ur:decide ((-1:Int) < 0)=true:=rfl;clear hr hR hq co hc;refine pj func81 ntmps81 results81 ?_;refine am ?_<;>intros;exact dg
  |some p=>
   obtain⟨i,e1,e2,e3⟩:=ik hq;subst e3;have oQ:p∈b.pools:=Xl e2;have gp:=iK b co.n8 co.l32;have fU:=co.mem p oQ;have nF:∀s,p.rule.min≤s→s≤p.rule.max→p.root.len≤s∧s≤16:=by
    intro s;have:=fU.2.2;unfold fH at this;simp[gm]at this;omega
   have cT:∀s,Hid ((decide (p.rule.min≤s)&&decide (s≤p.rule.max))=true→p.root.len≤s∧s≤16):=fun s h=>by
    simp only[Xy,decide_eq_true_eq]at h;exact nF s h.1 h.2
   rw[hc]at a9;rw[e1]at db
   have j4:decide ((i:Int) < 0)=false:=by simp
   have go:=fun f=>rA co.rise e2 f;have gS:=fun q=>bO ah b.pools i q;have key:∀s,(if size=0 then p.rule.usual else size)=s→Hid (R=if dV owner=false then (Bok.zero,Pfx.zero,3)else if (cC p s).2≠0 then (Bok.zero,Pfx.zero,(cC p s).2)else
    (⟨b.tick,b.pools.set i {p with leases:=ic ⟨(cC p s).1,1,owner,0⟩ p.leases}⟩,(cC p s).1,0)):=by
    intro s hs;show R=_;rw[hR.out];unfold cS;rw[if_neg (by simpa using hc),hq];simp only;rw[hs,go]
   have PP:i < b.pools.length:=(Xn.1 e2).1;obtain⟨s,hs⟩:∃s,((size==0)=true∧s=p.rule.usual)∨((size==0)=false∧s=size):=by
    cases h0:size==0
    ·exact⟨size,.inr ⟨rfl,rfl⟩⟩
    ·exact⟨p.rule.usual,.inl ⟨rfl,rfl⟩⟩
   have aP:=key s (by
    rcases hs with⟨h0,rfl⟩|⟨h0,rfl⟩
    ·rw[if_pos (by simpa using h0)]
    ·rw[if_neg (by simpa using h0)])
   have uJ:=ep s p.rule.min p.rule.max;cases dE:(decide (p.rule.min≤s)&&decide (s≤p.rule.max))with
   |false=>
    rw[dE]at uJ;have hE:cC p s=(Pfx.zero,7):=by
     unfold cC;rw[if_pos];simp only[ZK,decide_eq_false_iff_not]at dE;omega
    replace dE:=Xj dE;replace hE:=Xj hE;clear hR hc co hq key go gS;rcases hs with⟨h0,rfl⟩|⟨h0,rfl⟩
    all_goals
     refine pj func81 ntmps81 results81 ?_;refine xo ?_ ?_<;>intros;all_goals(have hE:=hE.out;unfold dV at aP;clear a9 db hid uJ hz gp)
     all_goals first
      |(rw[show R=(Bok.zero,Pfx.zero,3) from (by rw[aP.out];grind)];(try simp only[Xo,Xm]);exact dg)
      |(rw[show R=(Bok.zero,Pfx.zero,7) from (by rw[aP.out];grind)];(try simp only[Xo,Xm]);exact dg)
   |true=>
    rw[dE]at uJ;have uK:=LR p s fU.2.1 (cT s dE).1 (cT s dE).2;have xr:=Dc fU.2.1 fU.2.2 (by simp at dE;exact dE.1) (by simp at dE;exact dE.2);have Jq:(dx p s).2=true→af prog 167 [.agg (ah p),.agg (aV ⟨(dx p s).1,1,owner,0⟩)] (.agg (ah {p with leases:=ic ⟨(dx p s).1,1,owner,0⟩ p.leases})):=fun h=>ww p _ (co.l32 p oQ) (Dd fU.2.1 h);have dS:=gS {p with leases:=ic ⟨(dx p s).1,1,owner,0⟩ p.leases};simp only[ah,Xm,Xv]at dS;replace Jq:=Xj Jq;clear hR hc co hq key go gS;replace dE:=Xj dE;cases hf:(dx p s).2 with
    |false=>
     rw[hf]at uK xr;have hE:cC p s=(Pfx.zero,8):=xr;replace hE:=Xj hE;replace xr:=Xj xr;rcases hs with⟨h0,rfl⟩|⟨h0,rfl⟩
     all_goals
      refine pj func81 ntmps81 results81 ?_;refine xo ?_ ?_<;>intros;all_goals(have hE:=hE.out;unfold dV at aP;clear a9 db hid uJ hz gp uK Jq dS xr)
      all_goals first
       |(rw[show R=(Bok.zero,Pfx.zero,3) from (by rw[aP.out];grind)];(try simp only[Xo,Xm]);exact dg)
       |(rw[show R=(Bok.zero,Pfx.zero,8) from (by rw[aP.out];grind)];(try simp only[Xo,Xm]);exact dg)
    |true=>
     rw[hf]at uK xr;have hE:cC p s=((dx p s).1,0):=xr;replace hE:=Xj hE;replace xr:=Xj xr;have Jq:=Jq.out hf;rcases hs with⟨h0,rfl⟩|⟨h0,rfl⟩
     all_goals
      refine pj func81 ntmps81 results81 ?_;have z1z:=Ln.mk (ls:=[]) (gp);refine xo ?_ ?_<;>intros;all_goals(have hE:=hE.out;have fM:=aP.out;unfold dV at fM;rw[hE]at fM;replace aP:=Xj fM;clear a9 db hid uJ hz gp uK Jq dS xr fM)
     all_goals first
      |(rw[show R=(Bok.zero,Pfx.zero,3) from (by rw[aP.out];grind)];(try simp only[Xo,Xm]);exact dg)
      |(rw[show R=(⟨b.tick,b.pools.set i {p with leases:=ic ⟨(dx p p.rule.usual).1,1,owner,0⟩ p.leases}⟩,(dx p p.rule.usual).1,0) from (by rw[aP.out];grind)];(try simp only[Xo,Xm]);exact dg)
      |(rw[show R=(⟨b.tick,b.pools.set i {p with leases:=ic ⟨(dx p size).1,1,owner,0⟩ p.leases}⟩,(dx p size).1,0) from (by rw[aP.out];grind)];(try simp only[Xo,Xm]);exact dg)
      |(rw[show R=(⟨b.tick,b.pools.set i {p with leases:=ic ⟨(dx p s).1,1,owner,0⟩ p.leases}⟩,(dx p s).1,0) from (by rw[aP.out];grind)];(try simp only[Xo,Xm]);exact dg)
 ·have h1:(aZ b !=0)=true:=by simpa using hc
  have hr:R=(Bok.zero,Pfx.zero,aZ b):=by rw[hR.out];unfold cS;rw[if_pos hc]
  rw[hr];replace hr:=Xj hr;clear hR;refine pj func81 ntmps81 results81 ?_;refine am ?_<;>intros;exact dg
theorem Fg {b:Bok}{i:Nat}{p q:Pol}{id:Int}(hp:b.pools[i]? =some p)(hid:q.id=p.id)(h:bK b id=none):bK ⟨b.tick,b.pools.set i q⟩ id=none:=by
 unfold bK at h ⊢;rw[Yq]at h ⊢;intro x hx;obtain⟨j,hj,rfl⟩:=X0.1 hx;simp only[List.getElem_set];split
 ·rename_i e;rw[hid];exact h p (Xl hp)
 ·exact h _ (Ym _)
theorem LU (b:Bok)(id up size:Int)(r:Rul)(hz:∀p∈b.pools,p.leases.length≤3518437208882):af prog 161 [.agg (aS b),.v (.int .i64 id),.v (.int .i64 up),.v (.int .i64 size),.agg (pp r)] (.tup [.agg (aS (fT b id up size r).1),.agg (aN (fT b id up size r).2.1),.v (.int .i64 (fT b id up size r).2.2)]):=by
 obtain⟨R,hR⟩:∃R,R=fT b id up size r:=⟨_,rfl⟩;rw[←hR];replace hR:=Xj hR;have a9:=gF b hz;by_cases hc:aZ b=0
 ·have co:=dI hc;have h8:=co.n8;have hid:=ep id 1 65536;have db:=il b up (by omega);have qv:=il b id (by omega);cases hq:bK b up with
  |none=>
   have aP:R=if dV id=false then (Bok.zero,Pfx.zero,3)else (Bok.zero,Pfx.zero,5):=by rw[hR.out];unfold fT;rw[if_neg (by simpa using hc),hq]
   rw[hc]at a9;rw[nj hq]at db
   have ur:decide ((-1:Int) < 0)=true:=rfl;replace aP:=Xj aP;clear hR hq co hc qv;refine pj func161 ntmps161 results161 ?_;refine xo ?_ ?_<;>intros;all_goals(unfold dV at aP;clear a9 db hid hz)
   all_goals first
    |(rw[show R=(Bok.zero,Pfx.zero,3) from (by rw[aP.out];grind)];(try simp only[Xo,Xm]);exact dg)
    |(rw[show R=(Bok.zero,Pfx.zero,5) from (by rw[aP.out];grind)];(try simp only[Xo,Xm]);exact dg)
  |some p=>
   obtain⟨i,e1,e2,e3⟩:=ik hq;subst e3;have oQ:p∈b.pools:=Xl e2;have gp:=iK b co.n8 co.l32;have fU:=co.mem p oQ;have PP:i < b.pools.length:=(Xn.1 e2).1;have nF:∀s,p.rule.min≤s→s≤p.rule.max→p.root.len≤s∧s≤16:=by
    intro s;have:=fU.2.2;unfold fH at this;simp[gm]at this;omega
   rw[hc]at a9;rw[e1]at db
   have j4:decide ((i:Int) < 0)=false:=by simp
   have go:=fun f=>rA co.rise e2 f;have gS:=fun q=>bO ah b.pools i q;have aP:R=if dV id=false then (Bok.zero,Pfx.zero,3)else if (bK b id).isSome=true then (Bok.zero,Pfx.zero,6)else if (cC p size).2≠0 then (Bok.zero,Pfx.zero,(cC p size).2)else if fH r (cC p size).1.len=false then (Bok.zero,Pfx.zero,1)else
    if b.pools.length=8 then (Bok.zero,Pfx.zero,2)else (⟨b.tick,k9 ⟨id,p.id,(cC p size).1,r,[]⟩ (b.pools.set i {p with leases:=ic ⟨(cC p size).1,2,id,0⟩ p.leases})⟩,(cC p size).1,0):=by
    rw[hR.out];unfold fT;rw[if_neg (by simpa using hc),hq];simp only;rw[go]
   replace aP:=Xj aP;cases pu:bK b id with
   |some q=>
    obtain⟨j,f1,f2,f3⟩:=ik pu;rw[f1]at qv;have RC:decide ((j:Int)≥0)=true:=by simp
    have fM:=aP.out;rw[pu]at fM;replace aP:=Xj fM;clear hR hc co hq pu go gS f2 f1 f3 fM;refine pj func161 ntmps161 results161 ?_;refine xo ?_ ?_<;>intros;all_goals(unfold dV at aP;clear a9 db hid hz qv gp)
    all_goals first
     |(rw[show R=(Bok.zero,Pfx.zero,3) from (by rw[aP.out];grind)];(try simp only[Xo,Xm]);exact dg)
     |(rw[show R=(Bok.zero,Pfx.zero,6) from (by rw[aP.out];grind)];(try simp only[Xo,Xm]);exact dg)
   |none=>
    rw[nj pu]at qv;have ur:decide ((-1:Int)≥0)=false:=rfl;have fM:=aP.out;rw[pu]at fM;replace aP:=Xj fM;clear fM;have uJ:=ep size p.rule.min p.rule.max;cases dE:(decide (p.rule.min≤size)&&decide (size≤p.rule.max))with
    |false=>
     rw[dE]at uJ;have hE:cC p size=(Pfx.zero,7):=by
      unfold cC;rw[if_pos];simp only[ZK,decide_eq_false_iff_not]at dE;omega
     replace dE:=Xj dE;replace hE:=Xj hE;clear hR hc co hq go gS pu;refine pj func161 ntmps161 results161 ?_;refine xo ?_ ?_<;>intros;all_goals(have hE:=hE.out;unfold dV at aP;clear a9 db hid uJ hz gp qv)
     all_goals first
      |(rw[show R=(Bok.zero,Pfx.zero,3) from (by rw[aP.out];grind)];(try simp only[Xo,Xm]);exact dg)
      |(rw[show R=(Bok.zero,Pfx.zero,7) from (by rw[aP.out];grind)];(try simp only[Xo,Xm]);exact dg)
    |true=>
     rw[dE]at uJ;simp only[Xy,decide_eq_true_eq]at dE;have nF:=nF size dE.1 dE.2;have uK:=LR p size fU.2.1 nF.1 nF.2;have xr:=Dc fU.2.1 fU.2.2 dE.1 dE.2;have Jq:(dx p size).2=true→af prog 167 [.agg (ah p),.agg (aV ⟨(dx p size).1,2,id,0⟩)] (.agg (ah {p with leases:=ic ⟨(dx p size).1,2,id,0⟩ p.leases})):=fun h=>ww p _ (co.l32 p oQ) (Dd fU.2.1 h);have dS:=gS {p with leases:=ic ⟨(dx p size).1,2,id,0⟩ p.leases};simp only[ah,Xm,Xv]at dS;have xg:=qj r (dx p size).1;have Hc:=zq ⟨b.tick,b.pools.set i {p with leases:=ic ⟨(dx p size).1,2,id,0⟩ p.leases}⟩ ⟨id,p.id,(dx p size).1,r,[]⟩ b.pools.length (.agg [.v (.int .i64 id),.v (.int .i64 p.id),.v (.int .i64 (dx p size).1.at_),.v (.int .i64 (dx p size).1.len),.v (.int .i64 r.min),.v (.int .i64 r.max),.v (.int .i64 r.usual),.v (.int .i64 r.cool),.v (.slice none 0 0)]) (by simpa using h8) (Fg e2 (by rfl) pu) dg;replace Jq:=Xj Jq;clear hR hc co hq go gS nF pu;replace dE:=Xj dE;cases hf:(dx p size).2 with
     |false=>
      rw[hf]at uK xr;have hE:cC p size=(Pfx.zero,8):=xr;replace hE:=Xj hE;replace xr:=Xj xr;refine pj func161 ntmps161 results161 ?_;refine xo ?_ ?_<;>intros;all_goals(have hE:=hE.out;unfold dV at aP;clear a9 db hid uJ hz gp qv uK Jq dS xr Hc xg)
      all_goals first
       |(rw[show R=(Bok.zero,Pfx.zero,3) from (by rw[aP.out];grind)];(try simp only[Xo,Xm]);exact dg)
       |(rw[show R=(Bok.zero,Pfx.zero,8) from (by rw[aP.out];grind)];(try simp only[Xo,Xm]);exact dg)
     |true=>
      rw[hf]at uK xr;have hE:cC p size=((dx p size).1,0):=xr;have fM:=aP.out;unfold dV at fM;rw[hE]at fM;replace aP:=Xj fM;clear hE xr fM;have Jq:=Jq.out hf;refine pj func161 ntmps161 results161 ?_;have z1z:=Ln.mk (ls:=[]) (gp);have z2z:=Ln.mk (ls:=[8]) (Hc);refine Sk ?_ ?_ ?_ ?_<;>intros;all_goals(clear a9 db hid uJ hz gp qv uK Jq dS Hc xg)
      all_goals first
       |(rw[show R=(Bok.zero,Pfx.zero,3) from (by rw[aP.out];grind)];(try simp only[Xo,Xm]);exact dg)
       |(rw[show R=(Bok.zero,Pfx.zero,1) from (by rw[aP.out];grind)];(try simp only[Xo,Xm]);exact dg)
       |(rw[show R=(Bok.zero,Pfx.zero,2) from (by rw[aP.out];grind)];(try simp only[Xo,Xm]);exact dg)
       |(rw[show R=(⟨b.tick,k9 ⟨id,p.id,(dx p size).1,r,[]⟩ (b.pools.set i {p with leases:=ic ⟨(dx p size).1,2,id,0⟩ p.leases})⟩,(dx p size).1,0) from (by rw[aP.out];grind)];(try simp only[Xo,Xm]);exact dg)
 ·have h1:(aZ b !=0)=true:=by simpa using hc
  have hr:R=(Bok.zero,Pfx.zero,aZ b):=by rw[hR.out];unfold fT;rw[if_pos hc]
  rw[hr];replace hr:=Xj hr;clear hR;refine pj func161 ntmps161 results161 ?_;refine am ?_<;>intros;exact dg
@[go_sem] def Lse.zero:Lse:=⟨Pfx.zero,0,0,0⟩
def gG (b:Bok)(id:Int)(at_:Pfx):Option Lse:=match bK b id with|some p=>p.leases.find? (jh at_)|none=>none
def oG (o:Option Lse):D:=match o with|some l=> .tup [.agg (aV l),.v (.bool true)]|none=> .tup [.agg (aV Lse.zero),.v (.bool false)]
theorem O1 {α:Type}{p:α→Bool}{l:List α}{k:Nat}{x:α}(hx:l[k]? =some x)(hp:p x=true)(cg:∀j y,j < k→l[j]? =some y→p y=false):l.find? p=some x:=by
 rw[List.find?_eq_some_iff_getElem];obtain⟨hk,he⟩:=Xn.1 hx;exact⟨hp,k,hk,he,fun j hj=>by rw[cg j _ hj (Xk (by omega))];rfl⟩
theorem O2 {α:Type}{p:α→Bool}{l:List α}(cg:∀j y,j < l.length→l[j]? =some y→p y=false):l.find? p=none:=by
 rw[Yq];intro x hx;obtain⟨j,hj,rfl⟩:=X0.1 hx;rw[cg j _ hj (Xk hj)];simp
theorem zr (b:Bok)(id:Int)(at_:Pfx)(hl:b.pools.length≤1000000000)(fB:∀q∈b.pools,q.leases.length≤1000000000):af prog 39 [.agg (aS b),.v (.int .i64 id),.agg (aN at_)] (oG (gG b id at_)):=by
 have db:=il b id (by omega);unfold gG;cases hq:bK b id with
 |none=>
  rw[nj hq]at db
  have ur:decide ((-1:Int)≥0)=false:=rfl;replace hq:=Xj hq;simp only;refine pj func39 ntmps39 results39 ?_;refine am ?_<;>intros;refine qR ae ak 0 (fun _=>True) (fun _=>[(9,.d (.v (.int .i64 0))),(8,.d (.v (.int .i64 (-1)))),(7,.d (.v (.bool false))),(6,.ptr 2 0),(5,.ptr 1 0),(3,.ptr 0 0)]) (fun _=>[.box 24 ((aS b).map .d),.box 32 ((aN at_).map .d),.box 68 ((aV Lse.zero).map .d)]) trivial (wf) (fun k hk=>absurd hk (YJ _)) ?_;intro _ C;exact bc;all_goals exact dg
 |some p=>
  obtain⟨i,e1,e2,e3⟩:=ik hq;rw[e1]at db
  have j4:decide ((i:Int)≥0)=true:=by simp
  have a0e:=fB p (Xl e2);simp only;clear e1 e3 hq;refine pj func39 ntmps39 results39 ?_;refine am ?_<;>intros;refine bo ae ak p.leases (fun k=>∀j (l:Lse),j < k→p.leases[j]? =some l→jh at_ l=false) (fun k=>[(9,.d (.v (.int .i64 k))),(8,.d (.v (.int .i64 i))),(7,.d (.v (.bool false))),(6,.ptr 2 0),(5,.ptr 1 0),(3,.ptr 0 0)]) (fun _=>[.box 24 ((aS b).map .d),.box 32 ((aN at_).map .d),.box 68 ((aV Lse.zero).map .d)]) (fun j q h=>absurd h (YJ _)) (wf) ?_ ?_
  ·intro k l jc hk hI C hC;have dM:(k:Int) < (p.leases.length:Int):=by omega
   have cR:=wi k (by omega);have he:=mA l.at_ at_;have PL:jh at_ l=((l.kind==1)&&decide (l.at_=at_)):=rfl;have key:jh at_ l=false→∀j (l:Lse),j < k+1→p.leases[j]? =some l→jh at_ l=false:=by
    intro h1 j l' hj hl';rcases XP j k with h|h
    ·exact hI j l' h hl'
    ·obtain rfl:j=k:=by omega
     rw[jc]at hl';obtain rfl:=XX.inj hl';exact h1
   have Ju:jh at_ l=true→p.leases.find? (jh at_)=some l:=fun h=>O1 jc h hI;replace Ju:=Xj Ju;replace PL:=Xj PL;replace key:=Xj key;replace hI:=Xj hI;cases hd:decide (l.at_=at_);all_goals
    rw[hd]at he;refine xo ?_ ?_<;>intros;all_goals first
     |(refine hC _ _ (key.out ?_) (wf);(rw[PL.out];clear hC;simp_all;done))
     |(rw[Ju.out (by rw[PL.out];clear hC;simp_all)];exact ai.refl _)
  ·intro hI C;rw[O2 hI];replace hI:=Xj hI;exact bc;all_goals exact dg
def eY (p:Pol)(at_:Pfx)(tick:Int)(l:Lse):Option Lse:=if l.at_=at_ then (if p.rule.cool=0 then none else some ⟨at_,3,0,tick+p.rule.cool⟩)else some l
theorem IF {p:Pol}{at_:Pfx}{tick:Int}{k:Nat}{l:Lse}(h:p.leases[k]? =some l):(p.leases.take (k+1)).filterMap (eY p at_ tick)=(p.leases.take k).filterMap (eY p at_ tick)++(eY p at_ tick l).toList:=by
 rw[ag h,List.filterMap_append];cases hb:eY p at_ tick l<;>simp[hb]
theorem LV (ps:List Pol)(tick:Int)(i:Nat)(p:Pol)(at_:Pfx)(g:Nat)(hp:ps[i]? =some p)(hl:p.leases.length≤32)(wX:0≤p.rule.cool∧p.rule.cool≤1024)(ht:0≤tick∧tick≤1073741824):
 MSpec prog 170 [.ptr 0 0,.d (.v (.int .i64 i)),.d (.agg (aN at_))] [.box 24 [.d (.v (.int .i64 tick)),.own 1 g],.row 62 9 g (ab (ps.map ah))] (.d (.tup []))
  [.box 24 [.d (.v (.int .i64 tick)),.own 1 g],.row 62 9 g (ab ((ps.set i {p with leases:=p.leases.filterMap (eY p at_ tick)}).map ah)),.gone,.gone]:=by
 have UB:i < ps.length:=(Xn.1 hp).1;refine Ap ae ak func170 rfl ntmps170 results170 (by kernel_rfl) (by simp) (by simp[an,aq]) (by simp[aH,aQ,az,an,aq]) ?_;refine am ?_<;>intros;refine bo ae ak p.leases (fun _=>True) (fun k=>[(7,.d (.v (.int .i64 k))),(6,.own 3 ((p.leases.take k).filterMap (eY p at_ tick)).length),(5,.ptr 2 0),(1,.d (.v (.int .i64 i))),(0,.ptr 0 0)])
  (fun k=>[.box 24 [.d (.v (.int .i64 tick)),.own 1 g],.row 62 9 g (ab (ps.map ah)),.box 32 ((aN at_).map .d),.row 68 5 ((p.leases.take k).filterMap (eY p at_ tick)).length (ab (((p.leases.take k).filterMap (eY p at_ tick)).map aV))]) trivial ?_ ?_ ?_
 ·refine(dr (by simp) 6 68 5 rfl).trans ?_;exact wf (hh:=(by simp only[aN];rfl))
 ·intro k l jc hk _ C hC;have dM:(k:Int) < (p.leases.length:Int):=by omega
  have cR:=wi k (by omega);have WX:IntKind.i64.wrap (tick+p.rule.cool)=tick+p.rule.cool:=by rw[IntKind.wrap_i64];omega
  have Nb:=IF (at_:=at_) (tick:=tick) jc;have pL:((p.leases.take k).filterMap (eY p at_ tick)).length≤k:=Yz (List.length_filterMap_le _ _) (by rw[Xq];omega);generalize (p.leases.take k).filterMap (eY p at_ tick)=out at*;have jf:out.length+1≤100:=by omega
  rw[Nb]at hC;have he:=mA l.at_ at_;cases hd:decide (l.at_=at_)
  ·rw[hd]at he;have yi:eY p at_ tick l=some l:=by unfold eY;rw[if_neg (by simpa using hd)]
   rw[yi]at hC;simp only[_a]at hC;clear Nb yi;refine am ?_<;>intros;exact hC _ _ trivial (wf (hh:=(by simp only[aN,aV,Xo,Xm,Xv,XY,XA,XZ];rfl)) (he:=(by(repeat' (first|exact trivial|(refine⟨?_,?_⟩)|rfl|(simp only[XY,XA,XZ];rfl))))))
  ·rw[hd]at he;cases Jh:p.rule.cool==0
   ·have yi:eY p at_ tick l=some ⟨at_,3,0,tick+p.rule.cool⟩:=by unfold eY;rw[if_pos (by simpa using hd),if_neg (by simpa using Jh)]
    rw[yi]at hC;simp only[_a]at hC;clear Nb yi;refine am ?_<;>intros;exact hC _ _ trivial (wf (hh:=(by simp only[aN,aV,Xo,Xm,Xv,XY,XA,XZ];rfl)) (he:=(by(repeat' (first|exact trivial|(refine⟨?_,?_⟩)|rfl|(simp only[XY,XA,XZ];rfl))))))
   ·have yi:eY p at_ tick l=none:=by unfold eY;rw[if_pos (by simpa using hd),if_pos (by simpa using Jh)]
    rw[yi]at hC;simp only[Option.toList_none,Yw]at hC;clear Nb yi;refine am ?_<;>intros;exact hC _ _ trivial (wf (hh:=(by simp only[aN,aV,Xo,Xm,Xv,XY,XA,XZ];rfl)) (he:=(by(repeat' (first|exact trivial|(refine⟨?_,?_⟩)|rfl|(simp only[XY,XA,XZ];rfl))))))
 ·intro _ C;(try rw[Xt])
  refine am ?_<;>intros;refine(ap 3 _ 68 5 _ rfl).trans ?_;simp only[iD,fz,gy,gj,g8,f9,aR,bS,bW,Xm,Xv,XM,XL,reduceIte,and_true,true_and,and_self,and_false,false_and,XG,XW,reduceCtorEq,F9];refine(aL 2 (by simp)).trans (bn rfl ?_);rw[←bO];rfl
theorem zt {p:Pol}{at_:Pfx}{tick:Int}{j:Nat}{l:Lse}(hs:p.leases.Pairwise fun a b=>a.at_.at_ < b.at_.at_)(hj:p.leases[j]? =some l)(hl:l.at_=at_):p.leases.filterMap (eY p at_ tick)=jX p j tick:=by
 obtain⟨hlt,he⟩:=Xn.1 hj;have UC:p.leases=p.leases.take j++l::p.leases.drop (j+1):=by rw[←he,ZZ,YX]
 have hid:∀(ls:List Lse),(∀x∈ls,x.at_≠at_)→ls.filterMap (eY p at_ tick)=ls:=by
  intro ls h;induction ls with
  |nil=>rfl
  |cons a ls ih=>
   have ha:eY p at_ tick a=some a:=by unfold eY;rw[if_neg (h a (by simp))]
   rw[List.filterMap_cons,ha];simp only;rw[ih fun x hx=>h x (by simp[hx])]
 have qs:=hs;rw[UC,YT,YC]at qs;have h1:=hid (p.leases.take j) (fun x hx e=>by have:=qs.2.2 x hx l (by simp);rw[e,hl]at this;omega);have h2:=hid (p.leases.drop (j+1)) (fun x hx e=>by have:=qs.2.1.1 x hx;rw[e,hl]at this;omega);have h3:p.leases.filterMap (eY p at_ tick)=p.leases.take j++((eY p at_ tick l).toList++p.leases.drop (j+1)):=by
  conv=>lhs;rw[UC]
  rw[List.filterMap_append,h1,List.filterMap_cons,h2];cases eY p at_ tick l<;>rfl
 rw[h3];unfold eY jX;rw[if_pos hl,hj];split
 ·rw[YK];rfl
 ·simp only[hl,_a,List.singleton_append];rw[List.set_eq_take_append_cons_drop,if_pos hlt]
theorem Df (b:Bok)(id:Int)(at_:Pfx)(hz:∀p∈b.pools,p.leases.length≤3518437208882):af prog 84 [.agg (aS b),.v (.int .i64 id),.agg (aN at_)] (.tup [.agg (aS (fj b id at_).1),.v (.int .i64 (fj b id at_).2)]):=by
 obtain⟨R,hR⟩:∃R,R=fj b id at_:=⟨_,rfl⟩;rw[←hR];replace hR:=Xj hR;have a9:=gF b hz;by_cases hc:aZ b=0
 ·have co:=dI hc;have h8:=co.n8;have nu:=zr b id at_ (by omega) (fun q hq=>by have:=co.l32 q hq;omega);rw[hc]at a9;have no:gG b id at_=none→R=(Bok.zero,5):=fun h=>by
   rw[hR.out];unfold fj;rw[if_neg (by simpa using hc)];unfold gG at h;cases hq:bK b id with
   |none=>rfl
   |some p=>
    rw[hq]at h;simp only at h ⊢;cases hf:p.leases.findIdx? (jh at_)with
    |none=>rfl
    |some j=>
     obtain⟨hj,h1,-⟩:=XI.1 hf;exact absurd h1 (Yq.1 h _ (Ym hj))
  cases tb:gG b id at_ with
  |none=>
   rw[tb]at nu;rw[no tb];simp only[oG]at nu;clear no hR tb co;refine pj func84 ntmps84 results84 ?_;refine am ?_<;>intros;exact dg
  |some l=>
   rw[tb]at nu;simp only[oG]at nu;have gp:=iK b co.n8 co.l32;have db:=il b id (by omega);unfold gG at tb;cases hq:bK b id with
   |none=>rw[hq]at tb;simp at tb
   |some p=>
    rw[hq]at tb;simp only at tb;obtain⟨i,e1,e2,e3⟩:=ik hq;subst e3;have oQ:p∈b.pools:=Xl e2;have JB:=LV b.pools b.tick i p at_ b.pools.length e2 (co.l32 p oQ) (o5 (co.mem p oQ).2.2) co.tick;have hr:R=(⟨b.tick,b.pools.set i {p with leases:=p.leases.filterMap (eY p at_ b.tick)}⟩,0):=by
     rw[hR.out];unfold fj;rw[if_neg (by simpa using hc),hq];simp only;cases hf:p.leases.findIdx? (jh at_)with
     |none=>
      rw[Yn]at hf;have h1:=Zh tb;rw[hf l (YF tb)]at h1;exact absurd h1 (by simp)
     |some j=>
      simp only;obtain⟨hj,h1,-⟩:=XI.1 hf;unfold jh at h1;simp only[Xy,decide_eq_true_eq]at h1;rw[rA co.rise e2,zt (lc (co.mem p oQ).2.1) (Xk hj) h1.2]
    rw[hr];rw[e1]at db
    clear hr hR no tb hq co e1 e2;refine pj func84 ntmps84 results84 ?_;have z1z:=Ln.mk (ls:=[]) (gp);have z2z:=Ln.mk (ls:=[8,7]) (JB);exact bc
 ·have h1:(aZ b !=0)=true:=by simpa using hc
  have hr:R=(Bok.zero,aZ b):=by rw[hR.out];unfold fj;rw[if_pos hc]
  rw[hr];replace hr:=Xj hr;clear hR;refine pj func84 ntmps84 results84 ?_;refine am ?_<;>intros;exact dg
theorem Dg {l:List Pol}(hr:m9 l){i j:Nat}{p q:Pol}(hp:l[i]? =some p)(hq:l[j]? =some q)(h:i≠j):p.id≠q.id:=by
 obtain⟨hi,rfl⟩:=Xn.1 hp;obtain⟨hj,rfl⟩:=Xn.1 hq;rcases H' h with h|h
 ·have:=XF.1 hr i j hi hj h;omega
 ·have:=XF.1 hr j i hj hi h;omega
theorem rB {l:List Pol}(hr:m9 l){i:Nat}{p:Pol}(hp:l[i]? =some p):l.filter (fun q=>!(q.id==p.id))=l.eraseIdx i:=by
 obtain⟨hi,he⟩:=Xn.1 hp;have UC:l=l.take i++p::l.drop (i+1):=by rw[←he,ZZ,YX]
 have h1:(l.take i).filter (fun q=>!(q.id==p.id))=l.take i:=Y0.2 fun q hq=>by
  obtain⟨j,hj,rfl⟩:=X0.1 hq;rw[Xq]at hj;have:=Dg hr (Xk (show j < l.length by omega)) hp (by omega);simpa using this
 have h2:(l.drop (i+1)).filter (fun q=>!(q.id==p.id))=l.drop (i+1):=Y0.2 fun q hq=>by
  obtain⟨j,hj,rfl⟩:=X0.1 hq;rw[XJ]at hj;have:=Dg hr (Xk (show i+1+j < l.length by omega)) hp (by omega);simpa using this
 rw[YK];conv=>lhs;rw[UC]
 rw[YW,h1,Zu,h2];simp
theorem LW {l:List Pol}(hr:m9 l){i:Nat}{p q:Pol}(hp:l[i]? =some p)(h:q.id=p.id):m9 (l.set i q):=by
 unfold m9 at hr ⊢;rw[XF]at hr ⊢;intro a c ha hc hac;simp only[YV]at ha hc;have h1:=hr a c ha hc hac;obtain⟨hi,he⟩:=Xn.1 hp;simp only[List.getElem_set];split<;>split
 ·omega
 ·rename_i e1 e2;subst e1;rw[h,←he];exact h1
 ·rename_i e1 e2;subst e2;rw[h,←he];exact h1
 ·exact h1
theorem Fh {α:Type}(l:List α)(i n:Nat)(hi:i < l.length)(hn:n=l.length):(ay l i ((l.drop (i+1)).take (n - (i+1)))).take (i+min (n - (i+1)) (n - (i+1)))=l.eraseIdx i:=by
 subst hn;have h1:(l.drop (i+1)).take (l.length - (i+1))=l.drop (i+1):=XN (by rw[XJ];omega);rw[h1,Zq,YK];unfold ay;rw[Yl (by simp;omega),XN (by simp;omega)]
structure CutB (ps:List Pol)(i n:Nat):Prop where
 ne:¬ab (ps.map ah)=[]
 ne2:¬ay (ab (ps.map ah)) i (((ab (ps.map ah)).drop (i+1)).take (n - (i+1)))=[]
 len:(ay (ab (ps.map ah)) i (((ab (ps.map ah)).drop (i+1)).take (n - (i+1)))).length=n
 cut:(ay (ab (ps.map ah)) i (((ab (ps.map ah)).drop (i+1)).take (n - (i+1)))).take (i+min (n - (i+1)) (n - (i+1)))=ab ((ps.eraseIdx i).map ah)
theorem S5 {ps:List Pol}{i n:Nat}(hi:i < n)(hn:n=ps.length):CutB ps i n:=by
 have hl:(ab (ps.map ah)).length=ps.length:=by simp[aF]
 have h2:=lE (ab (ps.map ah)) i (i+1) n (by omega) rfl (by omega);refine⟨fun h=>?_,fun h=>?_,by omega,?_⟩
 ·rw[h]at hl;simp at hl;omega
 ·rw[h]at h2;simp at h2;omega
 ·rw[Fh _ i n (by omega) (by omega)];unfold ab;rw[fX,fX]
theorem Dh {b:Bok}(co:BookOK b){p u:Pol}{i j:Nat}(hq:bK b p.id=some p)(hi:b.pools[i]? =some p)(hu:bK b p.up=some u)(hj:b.pools[j]? =some u)(Uf:u.id=p.up):
 i≠j∧iw b p=b.pools.set j {u with leases:=u.leases.filterMap (eY u p.root b.tick)}:=by
 have oQ:p∈b.pools:=Xl hi;have Jl:u∈b.pools:=Xl hj;have h0:∀q∈b.pools,q.id≠0:=fun q hq e=>by have:=(co.mem q hq).1;rw[e]at this;simp[dV]at this
 have go:=(jz _ _ co.second p oQ).1;refine⟨?_,?_⟩
 ·rintro rfl;rw[hi]at hj;obtain rfl:=XX.inj hj;rw[AF hq (h0 p oQ) Uf.symm b.pools.length]at go;exact absurd go (by simp)
 ·have iy:=GE go (by rw[←Uf];exact h0 u Jl) hu;unfold iw;rw[hu];simp only;cases hf:u.leases.findIdx? (lw p.id)with
  |none=>
   rw[Yn]at hf;obtain⟨x,hx,lO⟩:=XU.1 iy;rw[hf x hx]at lO;exact absurd lO (by simp)
  |some k=>
   simp only;obtain⟨hk,h1,-⟩:=XI.1 hf;have bF:=(jz _ _ co.second u Jl).2 _ (Ym hk);unfold lw at h1;simp only[Xy,beq_iff_eq]at h1;have db:u.leases[k].at_=p.root:=by
    unfold eO at bF;rw[if_neg (by simp[h1.1]),if_pos (by simp[h1.1]),h1.2,hq]at bF;simp only[Xy,decide_eq_true_eq]at bF;exact bF.2.1.symm
   rw[rA co.rise hj,zt (lc (co.mem u Jl).2.1) (Xk hk) db]
theorem IG (b:Bok)(id:Int)(hz:∀p∈b.pools,p.leases.length≤3518437208882):af prog 162 [.agg (aS b),.v (.int .i64 id)] (.tup [.agg (aS (fk b id).1),.v (.int .i64 (fk b id).2)]):=by
 obtain⟨R,hR⟩:∃R,R=fk b id:=⟨_,rfl⟩;rw[←hR];replace hR:=Xj hR;have a9:=gF b hz;by_cases hc:aZ b=0
 ·have co:=dI hc;have h8:=co.n8;have db:=il b id (by omega);rw[hc]at a9;cases hq:bK b id with
  |none=>
   have hr:R=(Bok.zero,5):=by rw[hR.out];unfold fk;rw[if_neg (by simpa using hc),hq]
   rw[hr];rw[nj hq]at db
   have ur:decide ((-1:Int) < 0)=true:=rfl;clear hr hR hq co hc;refine pj func162 ntmps162 results162 ?_;refine am ?_<;>intros;exact dg
  |some p=>
   obtain⟨i,e1,e2,e3⟩:=ik hq;subst e3;have oQ:p∈b.pools:=Xl e2;have PP:i < b.pools.length:=(Xn.1 e2).1;have gp:=iK b co.n8 co.l32;have qv:=il b p.up (by omega);have j4:decide ((i:Int) < 0)=false:=by simp
   have iP:=co.l32 p oQ;rw[e1]at db
   have aP:R=if (p.leases.any fun l=>l.kind !=3)=true then (Bok.zero,9)else (⟨b.tick,(iw b p).filter fun q=>!(q.id==p.id)⟩,0):=by
    rw[hR.out];unfold fk;rw[if_neg (by simpa using hc),hq]
   replace aP:=Xj aP;clear hR;refine pj func162 ntmps162 results162 ?_;refine am ?_<;>intros;refine bo ae ak p.leases (fun k=>∀j (l:Lse),j < k→p.leases[j]? =some l→(l.kind !=3)=false) (fun k=>[(8,.d (.v (.int .i64 k))),(7,.d (.v (.int .i64 i))),(5,.d (.v (.int .i64 0))),(4,.ptr 1 0),(2,.ptr 0 0),(1,.d (.v (.int .i64 p.id)))])
    (fun _=>[.box 24 ((aS b).map .d),.box 24 [.d (.v (.int .i64 0)),.d (.v (.slice none 0 0))]]) (fun j q h=>absurd h (YJ _)) (wf) ?_ ?_
   ·intro k l jc hk hI C hC;have dM:(k:Int) < (p.leases.length:Int):=by omega
    have cR:=wi k (by omega);replace hI:=Xj hI;refine xo ?_ ?_<;>intros
    ·rename_i h1;have iy:(p.leases.any fun l=>l.kind !=3)=true:=XU.2 ⟨l,Xl jc,h1⟩;clear hC hI hz a9 db qv gp co;(rw[show R=(Bok.zero,9) from (by rw[aP.out];grind)];(try simp only[Xo,Xm]);exact dg)
    ·rename_i h1;refine hC _ _ (fun j l' hj hl'=>?_) (wf);rcases XP j k with h|h
     ·exact hI.out j l' h hl'
     ·obtain rfl:j=k:=by omega
      rw[jc]at hl';obtain rfl:=XX.inj hl';exact h1
   ·intro hI C;have iy:(p.leases.any fun l=>l.kind !=3)=false:=by
     rw[Yh];intro l hl;obtain⟨j,hj,rfl⟩:=X0.1 hl;rw[hI j _ hj (Xk hj)];simp
    have fM:=aP.out;rw[iy]at fM;simp only[YB,if_false]at fM;replace hI:=Xj hI;replace iy:=Xj iy;have uJ:=wi i (by omega);cases hu:bK b p.up with
    |none=>
     rw[nj hu]at qv;have ur:decide ((-1:Int)≥0)=false:=rfl;have fV:iw b p=b.pools:=by unfold iw;rw[hu]
     rw[fV,rB co.rise e2]at fM;replace aP:=Xj fM;clear fM fV hu co hq hc;have VZ:i≤b.pools.length:=by omega
     have hle2:i+1≤b.pools.length:=by omega
     have Sc:i+(b.pools.length - (i+1))≤b.pools.length:=by omega
     have V0:i+min (b.pools.length - (i+1)) (b.pools.length - (i+1))≤b.pools.length:=by rw[Zq];exact Sc
     obtain⟨bB,ut,ph,hcut⟩:=S5 (ps:=b.pools) PP rfl;have Je:0 < b.pools.length:=by omega
     repeat' (first|(with_reducible refine And.intro ?_ ?_)|(with_reducible refine cn (fun _=>?_) (fun _=>?_))|(with_reducible refine aA (fun _=>?_) (fun _=>?_))|(with_reducible refine be (by kernel_rfl))|simp -dsimp only[go_sem,seval, *,aS,ah,e2,YN,ur,uJ,bB,ut,ph,hcut,Yo,Xq,XJ]|((with_reducible refine bf ?_);simp -dsimp only[go_sem,seval,aS,ah,e2,YN,ur,uJ,bB,ut,ph,hcut,Yo,Xq,XJ];first|refine aC (by first|assumption|exact qv) (by first|exact .inl rfl|exact .inr rfl) ?_|(refine aB (by assumption) ?_ ?_ ?_;(solve|(repeat(first|exact ai.refl _|exact ai.nil _|(refine ai.tup ?_)|(refine ai.agg ?_ rfl)|exact trivial|(refine And.intro ?_ ?_))));(solve|exact .inl rfl|exact .inr rfl)))|(refine aX [] (gp) ?_ ?_ ?_ ?_ ?_ ?_;(solve|rfl|simp only[go_sem,seval,aS]);(solve|rfl);(solve|decide);(solve|simp);(solve|simp only[go_sem,seval,ax,aS]))|omega|exact decide_eq_true (by omega)|exact ai.refl _)
     all_goals clear hz a9 db qv gp bB ut hcut ph
     rw[aP.out];first|done|exact ai.refl _
    |some u=>
     obtain⟨j,f1,f2,f3⟩:=ik hu;obtain⟨hij,fV⟩:=Dh co hq e2 hu f2 f3;have Jl:u∈b.pools:=Xl f2;have JB:=LV b.pools b.tick j u p.root b.pools.length f2 (co.l32 u Jl) (o5 (co.mem u Jl).2.2) co.tick;have xe:(b.pools.set j {u with leases:=u.leases.filterMap (eY u p.root b.tick)})[i]? =some p:=by rw[Z7 (Ne.symm hij)];exact e2
     rw[f1]at qv;have RC:decide ((j:Int)≥0)=true:=by simp
     rw[fV,rB (LW co.rise f2 (by rfl)) xe]at fM;replace aP:=Xj fM;clear fM fV hu co hq hc xe f1 f2 f3 hij;have VZ:i≤b.pools.length:=by omega
     have hle2:i+1≤b.pools.length:=by omega
     have Sc:i+(b.pools.length - (i+1))≤b.pools.length:=by omega
     have V0:i+min (b.pools.length - (i+1)) (b.pools.length - (i+1))≤b.pools.length:=by rw[Zq];exact Sc
     obtain⟨bB,ut,ph,hcut⟩:=S5 (ps:=b.pools.set j {u with leases:=u.leases.filterMap (eY u p.root b.tick)}) PP (by simp);have Je:0 < b.pools.length:=by omega
     repeat' (first|(with_reducible refine And.intro ?_ ?_)|(with_reducible refine cn (fun _=>?_) (fun _=>?_))|(with_reducible refine aA (fun _=>?_) (fun _=>?_))|(with_reducible refine be (by kernel_rfl))|simp -dsimp only[go_sem,seval, *,aS,ah,e2,YN,RC,uJ,bB,ut,ph,hcut,Yo,Xq,XJ]|((with_reducible refine bf ?_);simp -dsimp only[go_sem,seval,aS,ah,e2,YN,RC,uJ,bB,ut,ph,hcut,Yo,Xq,XJ];first|refine aC (by first|assumption|exact qv) (by first|exact .inl rfl|exact .inr rfl) ?_|(refine aB (by assumption) ?_ ?_ ?_;(solve|(repeat(first|exact ai.refl _|exact ai.nil _|(refine ai.tup ?_)|(refine ai.agg ?_ rfl)|exact trivial|(refine And.intro ?_ ?_))));(solve|exact .inl rfl|exact .inr rfl)))|(refine aX [] (gp) ?_ ?_ ?_ ?_ ?_ ?_;(solve|rfl|simp only[go_sem,seval,aS]);(solve|rfl);(solve|decide);(solve|simp);(solve|simp only[go_sem,seval,ax,aS]))|(refine aX [6,5] (JB) ?_ ?_ ?_ ?_ ?_ ?_;(solve|rfl|simp only[go_sem,seval,aN]);(solve|rfl);(solve|decide);(solve|simp);(solve|simp only[go_sem,seval,ax,aN]))|omega|exact decide_eq_true (by omega)|exact ai.refl _)
     all_goals clear hz a9 db qv gp bB ut hcut ph JB
     rw[aP.out];first|done|exact ai.refl _
 ·have h1:(aZ b !=0)=true:=by simpa using hc
  have hr:R=(Bok.zero,aZ b):=by rw[hR.out];unfold fk;rw[if_pos hc]
  rw[hr];replace hr:=Xj hr;clear hR;refine pj func162 ntmps162 results162 ?_;refine am ?_<;>intros;exact dg
def nD (b:Bok)(t:Int)(k:Nat):List Pol:=(b.pools.take k).map (eW t)++b.pools.drop k
theorem IH (b:Bok)(t:Int)(k:Nat)(hk:k≤b.pools.length):(nD b t k).length=b.pools.length:=by
 unfold nD;simp;omega
theorem II {b:Bok}{t:Int}{k:Nat}{p:Pol}(hp:b.pools[k]? =some p):(nD b t k)[k]? =some p:=by
 have hk:=(Xn.1 hp).1;unfold nD;rw[XH (by simp;omega)];simp only[XD,Xq,Yk];rw[show k+(k - min k b.pools.length)=k by omega,hp]
theorem IJ {b:Bok}{t:Int}{k:Nat}{p:Pol}(hp:b.pools[k]? =some p):(nD b t k).set k (eW t p)=nD b t (k+1):=by
 have hk:=(Xn.1 hp).1;unfold nD;rw[Yu _ _ (by simp;omega),ag hp,Xo,jx hp];simp only[XD,Xq];rw[show k - min k b.pools.length=0 by omega];simp
theorem Fi {α:Type}{p:α→Bool}{l:List α}{k:Nat}{x:α}(h:l[k]? =some x):(l.take (k+1)).filter p=(l.take k).filter p++if p x then [x]else []:=by
 rw[ag h,YW];cases hp:p x<;>simp[hp]
theorem LX (b:Bok)(n:Int)(hz:∀p∈b.pools,p.leases.length≤3518437208882):af prog 163 [.agg (aS b),.v (.int .i64 n)] (.tup [.agg (aS (i6 b n).1),.v (.int .i64 (i6 b n).2)]):=by
 obtain⟨R,hR⟩:∃R,R=i6 b n:=⟨_,rfl⟩;rw[←hR];replace hR:=Xj hR;have a9:=gF b hz;by_cases hc:aZ b=0
 ·have co:=dI hc;have h8:=co.n8;have ht:=co.tick;have hws:IntKind.i64.wrap (1073741824 - b.tick)=1073741824 - b.tick:=by rw[IntKind.wrap_i64];omega
  have uJ:=ep n 1 (1073741824 - b.tick);rw[hc]at a9;by_cases hn:n < 1∨n>1073741824 - b.tick
  ·have hr:R=(Bok.zero,3):=by rw[hR.out];unfold i6;rw[if_neg (by simpa using hc),if_pos hn]
   have hd:(decide (1≤n)&&decide (n≤1073741824 - b.tick))=false:=by
    rcases hn with h|h
    ·simp;omega
    ·simp;omega
   rw[hr];rw[hd]at uJ;clear hr hR hd hn co hc;refine pj func163 ntmps163 results163 ?_;refine am ?_<;>intros;exact dg
  ·have hr:R=(⟨b.tick+n,b.pools.map (eW (b.tick+n))⟩,0):=by rw[hR.out];unfold i6;rw[if_neg (by simpa using hc),if_neg hn]
   have hd:(decide (1≤n)&&decide (n≤1073741824 - b.tick))=true:=by simp;omega
   have PK:IntKind.i64.wrap (b.tick+n)=b.tick+n:=by rw[IntKind.wrap_i64];omega
   have gp:=iK b co.n8 co.l32;have nL:=co.l32;rw[hr];rw[hd]at uJ;clear hr hR hd hn co hc;refine pj func163 ntmps163 results163 ?_;have z1z:=Ln.mk (ls:=[]) (gp);refine am ?_<;>intros;refine qR ae ak b.pools.length (fun _=>True) (fun k=>[(8,.d (.v (.int .i64 k))),(7,.ptr 6 0),(5,.d (.v (.int .i64 0))),(4,.ptr 1 0)])
    (fun k=>[.box 24 ((aS b).map .d),.box 24 [.d (.v (.int .i64 0)),.d (.v (.slice none 0 0))],.gone,.gone,.gone,.row 62 9 b.pools.length (ab ((nD b (b.tick+n) k).map ah)),.box 24 [.d (.v (.int .i64 (b.tick+n))),.own 5 b.pools.length]]) trivial ?_ ?_ ?_
   ·exact wf (hh:=(by simp only[aS,nD,Z4,Xv,Ya,List.drop_zero];rfl))
   ·intro k hk _ C hC;obtain⟨p,hp⟩:∃p,b.pools[k]? =some p:=⟨_,Xk hk⟩;have dM:(k:Int) < (b.pools.length:Int):=by omega
    have cR:=wi k (by omega);have hg:=II (t:=b.tick+n) hp;have hs:=IJ (t:=b.tick+n) hp;have uI:=IH b (b.tick+n) k (by omega);have iP:=nL p (Xl hp);rw[←hs]at hC;generalize nD b (b.tick+n) k=ps at*;have hks:k < ps.length:=by omega
    clear hs;refine am ?_<;>intros;refine bo ae ak p.leases (fun _=>True) (fun j=>[(10,.d (.v (.int .i64 j))),(9,.own 7 ((p.leases.take j).filter fun l=>!jY (b.tick+n) l).length),(8,.d (.v (.int .i64 k))),(7,.ptr 6 0),(5,.d (.v (.int .i64 0))),(4,.ptr 1 0)])
     (fun j=>[.box 24 ((aS b).map .d),.box 24 [.d (.v (.int .i64 0)),.d (.v (.slice none 0 0))],.gone,.gone,.gone,.row 62 9 b.pools.length (ab (ps.map ah)),.box 24 [.d (.v (.int .i64 (b.tick+n))),.own 5 b.pools.length],.row 68 5 ((p.leases.take j).filter fun l=>!jY (b.tick+n) l).length (ab (((p.leases.take j).filter fun l=>!jY (b.tick+n) l).map aV))]) trivial ?_ ?_ ?_
    ·refine(dr (by simp) 9 68 5 rfl).trans ?_;exact wf (hh:=(by simp only[aS];rfl))
    ·intro j l pm hj _ C hC;have ip:(j:Int) < (p.leases.length:Int):=by omega
     have kj:=wi j (by omega);have tj:=Fi (p:=fun l=>!jY (b.tick+n) l) pm;have pL:((p.leases.take j).filter fun l=>!jY (b.tick+n) l).length≤j:=Yz (Za _ _) (by rw[Xq];omega);rw[tj]at hC;generalize (p.leases.take j).filter (fun l=>!jY (b.tick+n) l)=out at*;have jf:out.length+1≤100:=by omega
     have eh:jY (b.tick+n) l=((l.kind==3)&&decide (l.till≤b.tick+n)):=rfl;replace eh:=Xj eh;clear tj;cases ho:jY (b.tick+n) l;all_goals
      rw[ho]at hC;have eh:=eh.out;rw[ho]at eh;replace eh:=Xj eh;simp only[Bool.not_false,Z0,YB,if_true,if_false,Yw]at hC;replace ho:=Xj ho;refine Aq ?_ ?_ ?_<;>intros;all_goals first
       |(exfalso;have:=eh.out;clear hC;grind)
       |exact hC _ _ trivial (wf (hh:=(by simp only[aS,aV,Xo,Xm,Xv,XY,XA,XZ];rfl)) (he:=(by(repeat' (first|exact trivial|(refine⟨?_,?_⟩)|rfl|(simp only[XY,XA,XZ];rfl))))))
    ·intro _ C1;(try rw[Xt])
     refine am ?_<;>intros;refine hC _ _ trivial ((ap 7 _ 68 5 _ rfl).trans ?_);simp only[iD,fz,gy,gj,g8,f9,aR,bS,bW,Xm,Xv,XM,XL,reduceIte,and_true,true_and,and_self,and_false,false_and,XG,XW,reduceCtorEq,F9];exact wf (x:=[.gone]) (hh:=(by rw[←bO];rfl))
   ·intro _ C;have he:nD b (b.tick+n) b.pools.length=b.pools.map (eW (b.tick+n)):=by unfold nD;simp
    rw[he];repeat' (first|(with_reducible refine And.intro ?_ ?_)|(with_reducible refine cn (fun _=>?_) (fun _=>?_))|(with_reducible refine aA (fun _=>?_) (fun _=>?_))|(with_reducible refine be (by kernel_rfl))|simp -dsimp only[go_sem,seval, *,aS,YN,XD]|((with_reducible refine bf ?_);simp -dsimp only[go_sem,seval,aS,YN,XD];first|refine aC (by first|assumption|fail) (by first|exact .inl rfl|exact .inr rfl) ?_|(refine aB (by assumption) ?_ ?_ ?_;(solve|(repeat(first|exact ai.refl _|exact ai.nil _|(refine ai.tup ?_)|(refine ai.agg ?_ rfl)|exact trivial|(refine And.intro ?_ ?_))));(solve|exact .inl rfl|exact .inr rfl)))|fail|omega|exact decide_eq_true (by omega)|exact ai.refl _)
 ·have h1:(aZ b !=0)=true:=by simpa using hc
  have hr:R=(Bok.zero,aZ b):=by rw[hR.out];unfold i6;rw[if_pos hc]
  rw[hr];replace hr:=Xj hr;clear hR;refine pj func163 ntmps163 results163 ?_;refine am ?_<;>intros;exact dg
def li (b:Bok):Prop:=b.pools.length≤1000000000∧∀p∈b.pools,p.leases.length≤1000000000
theorem Di (b:Bok)(hs:li b):af prog 41 [.agg (aS b),.agg (aS b)] (.v (.bool true)):=by
 have hl:=hs.1;refine pj func41 ntmps41 results41 ?_;refine am ?_<;>intros;refine bo ae ak b.pools (fun _=>True) (fun k=>[(5,.d (.v (.int .i64 k))),(4,.d (.v (.bool false))),(3,.ptr 1 0),(2,.ptr 0 0)]) (fun _=>[.box 24 ((aS b).map .d),.box 24 ((aS b).map .d)]) trivial (wf) ?_ ?_
 ·intro k p hp hk _ C hC;have dM:(k:Int) < (b.pools.length:Int):=by omega
  have cR:=wi k (by omega);have iP:=hs.2 p (Xl hp);refine am ?_<;>intros;refine bo ae ak p.leases (fun _=>True) (fun j=>[(8,.d (.v (.int .i64 j))),(7,.ptr 3 0),(6,.ptr 2 0),(5,.d (.v (.int .i64 k))),(4,.d (.v (.bool false))),(3,.ptr 1 0),(2,.ptr 0 0)]) (fun _=>[.box 24 ((aS b).map .d),.box 24 ((aS b).map .d),.box 62 ((ah p).map .d),.box 62 ((ah p).map .d)]) trivial (wf) ?_ ?_
  ·intro j l pm hj _ C hC;have ip:(j:Int) < (p.leases.length:Int):=by omega
   have kj:=wi j (by omega);refine am ?_<;>intros;exact hC _ _ trivial (wf)
  ·intro _ C;refine am ?_<;>intros;exact hC _ _ trivial (wf)
 ·intro _ C;exact bc
@[go_sem] def LY:Rul:=⟨8,16,12,3⟩
theorem O3:af prog 86 [] (.agg (pp LY)):=by
 refine pj func86 ntmps86 results86 ?_;exact bc
theorem bT:li Bok.zero:=⟨XE _,fun p hp=>by simp[Bok.zero]at hp⟩
theorem mG {b:Bok}(h:BookOK b):b.pools.length≤8∧∀p∈b.pools,p.leases.length≤32:=⟨h.n8,h.l32⟩
theorem Dj (p:Pol)(ps:List Pol):(k9 p ps).length=ps.length+1:=by
 have:=o4 (fun x:Pol=>x.id) p.id ps;unfold k9;simp;omega
theorem Dk {p q:Pol}{ps:List Pol}(h:q∈k9 p ps):q=p∨q∈ps:=by
 unfold k9 at h;simp only[X3,X7]at h;rcases h with h|h|h
 ·exact .inr (Yf h)
 ·exact .inl h
 ·exact .inr (Yd h)
theorem Dl (l:Lse)(ls:List Lse):(ic l ls).length=ls.length+1:=by
 have:=o4 (fun x:Lse=>x.at_.at_) l.at_.at_ ls;unfold ic;simp;omega
theorem zu (p:Pol)(i:Nat)(t:Int):(jX p i t).length≤p.leases.length:=by
 unfold jX;split
 ·rw[Z8];split<;>omega
 ·split
  ·rw[YV];exact XB _
  ·exact XB _
theorem nl {b:Bok}{id:Int}{f:Pol→Pol}(h:b.pools.length≤8)(h2:∀p∈b.pools,p.leases.length≤32∧(f p).leases.length≤33):(rq b id f).pools.length≤8∧∀p∈(rq b id f).pools,p.leases.length≤33:=by
 unfold rq;refine⟨by simpa using h,fun p hp=>?_⟩;obtain⟨q,hq,rfl⟩:=XQ.1 hp;split
 ·exact(h2 q hq).2
 ·have:=(h2 q hq).1;omega
theorem zw {b:Bok}{id:Int}{f:Pol→Pol}(h:(rq b id f).pools.length≤8∧∀p∈(rq b id f).pools,p.leases.length≤33):li (rq b id f):=⟨by have:=h.1;omega,fun q hq=>by have:=h.2 q hq;omega⟩
theorem IK {b:Bok}{t:Int}{p:Pol}(h:b.pools.length≤8∧∀p∈b.pools,p.leases.length≤33)(hp:p.leases=[]):li ⟨t,k9 p b.pools⟩:=⟨by simp only[Dj];omega,fun q hq=>by
 rcases Dk hq with rfl|hq
 ·rw[hp];exact XE _
 ·have:=h.2 q hq;omega⟩
theorem Dm (b:Bok)(id:Int)(root:Pfx)(r:Rul):li (fS b id root r).1:=by
 unfold fS;split
 ·exact bT
 ·rename_i hc;have hk:=mG (dI (by simpa using hc));split
  ·exact bT
  ·refine⟨by simp only[Dj];omega,fun p hp=>?_⟩;rcases Dk hp with rfl|hp
   ·exact XE _
   ·have:=hk.2 p hp;omega
theorem Dn (b:Bok)(id up size:Int)(r:Rul):li (fT b id up size r).1:=by
 unfold fT;split
 ·exact bT
 ·rename_i hc;have hk:=mG (dI (by simpa using hc));split
  ·exact bT
  ·split
   ·exact bT
   ·split
    ·exact bT
    ·split
     ·exact bT
     ·split
      ·exact bT
      ·split
       ·exact bT
       ·exact IK (nl hk.1 (fun q hq=>⟨hk.2 q hq,by simp only[Dl];have:=hk.2 q hq;omega⟩)) rfl
theorem tP (b:Bok)(id size owner:Int):li (cS b id size owner).1:=by
 unfold cS;split
 ·exact bT
 ·rename_i hc;have hk:=mG (dI (by simpa using hc));split
  ·exact bT
  ·split
   ·exact bT
   ·rename_i p _ _;generalize cC p (if size=0 then p.rule.usual else size)=F;simp only;split
    ·exact bT
    ·exact zw (nl hk.1 (fun q hq=>⟨hk.2 q hq,by simp only[Dl];have:=hk.2 q hq;omega⟩))
theorem tQ (b:Bok)(id:Int)(at_:Pfx):li (fj b id at_).1:=by
 unfold fj;split
 ·exact bT
 ·rename_i hc;have hk:=mG (dI (by simpa using hc));split
  ·exact bT
  ·split
   ·exact bT
   ·rename_i i _;exact zw (nl hk.1 (fun q hq=>⟨hk.2 q hq,by have:=hk.2 q hq;have:=zu q i b.tick;simp only;omega⟩))
theorem AK (b:Bok)(id:Int):li (fk b id).1:=by
 unfold fk;split
 ·exact bT
 ·rename_i hc;have hk:=mG (dI (by simpa using hc));split
  ·exact bT
  ·split
   ·exact bT
   ·rename_i p _ _;have fV:(iw b p).length≤8∧∀q∈iw b p,q.leases.length≤33:=by
     unfold iw;split
     ·exact⟨hk.1,fun q hq=>by have:=hk.2 q hq;omega⟩
     ·split
      ·rename_i u _ _ i _;exact nl (b:=b) (id:=u.id) (f:=fun q=>{q with leases:=jX q i b.tick}) hk.1 (fun q hq=>⟨hk.2 q hq,by have:=hk.2 q hq;have:=zu q i b.tick;simp only;omega⟩)
      ·exact⟨hk.1,fun q hq=>by have:=hk.2 q hq;omega⟩
    exact⟨by have:=Za (fun q:Pol=>!(q.id==id)) (iw b p);simp only;omega,fun q hq=>by have:=fV.2 q (Zt.1 hq).1;omega⟩
theorem Do (b:Bok)(n:Int):li (i6 b n).1:=by
 unfold i6;split
 ·exact bT
 ·rename_i hc;have hk:=mG (dI (by simpa using hc));split
  ·exact bT
  ·refine⟨by simp only[XD];omega,fun q hq=>?_⟩;obtain⟨p,hp,rfl⟩:=XQ.1 hq;have:=hk.2 p hp;have:=Za (fun l=>!jY (b.tick+n) l) p.leases;simp only[eW];omega
def Fj (s:Sbn):Prop:=s.faces.length≤1000000000∧∀f∈s.faces,f.addrs.length≤1000000000
def nm (v:Vpc):Prop:=v.ranges.length≤1000000000∧v.subs.length≤1000000000∧∀s∈v.subs,Fj s
theorem bC:nm Vpc.zero:=⟨XE _,XE _,fun s h=>by simp[Vpc.zero]at h⟩
theorem o8 {v:Vpc}(h:VpcOK v):∀s∈v.subs,Fj s:=fun s hs=>⟨by have:=(h.n8 s hs).1;omega,fun f hf=>by have:=(h.n8 s hs).2 f hf;omega⟩
theorem qk {v:Vpc}(h:VpcOK v){i:Nat}{s:Sbn}(hs:Fj s):nm {v with subs:=v.subs.set i s}:=⟨by have:=h.n4;show v.ranges.length≤_;omega,by have:=h.n6;show (v.subs.set i s).length≤_;rw[YV];omega,fun t ht=>by
 rcases Y4 ht with ht|rfl
 ·exact o8 h t ht
 ·exact hs⟩
theorem Dp (v:Vpc)(p:Pfx):nm (dP v p).1:=by
 unfold dP;split
 ·exact bC
 ·rename_i hc;have hk:=aY (by simpa using hc);split
  ·exact bC
  ·split
   ·exact bC
   ·exact⟨by have:=hk.n4;show (v.ranges.eraseIdx _).length≤_;rw[Z8];split<;>omega,by have:=hk.n6;show v.subs.length≤_;omega,fun s hs=>o8 hk s hs⟩
theorem Fk (v:Vpc)(id:Int)(p:Pfx):nm (nH v id p).1:=by
 unfold nH;split
 ·exact bC
 ·rename_i hc;have hk:=aY (by simpa using hc);split
  ·exact bC
  ·refine⟨by have:=hk.n4;show v.ranges.length≤_;omega,by have:=hk.n6;show (di _ _ v.subs).length≤_;rw[fi];omega,fun s hs=>?_⟩;rcases mr.1 hs with rfl|hs
   ·exact⟨XE _,fun f hf=>by simp at hf⟩
   ·exact o8 hk s hs
theorem AL (v:Vpc)(id:Int):nm (fp v id).1:=by
 unfold fp;split
 ·exact bC
 ·rename_i hc;have hk:=aY (by simpa using hc);split
  ·exact bC
  ·split
   ·exact bC
   ·exact⟨by have:=hk.n4;show v.ranges.length≤_;omega,by have:=hk.n6;show (v.subs.eraseIdx _).length≤_;rw[Z8];split<;>omega,fun s hs=>o8 hk s (List.mem_of_mem_eraseIdx hs)⟩
theorem Dq (v:Vpc)(sub id:Int):nm (gE v sub id).1:=by
 unfold gE;split
 ·exact bC
 ·rename_i hc;have hk:=aY (by simpa using hc);split
  ·exact bC
  ·split
   ·exact bC
   ·rename_i s hs;have h8:=hk.n8 s (Xl hs);split
    ·exact bC
    ·refine qk hk ⟨by show (di _ _ s.faces).length≤_;rw[fi];omega,fun f hf=>?_⟩;rcases mr.1 hf with rfl|hf
     ·show 1≤1000000000;omega
     ·have:=h8.2 f hf;omega
theorem xU (v:Vpc)(sub id:Int):nm (dX v sub id).1:=by
 unfold dX;split
 ·exact bC
 ·rename_i hc;have hk:=aY (by simpa using hc);split
  ·exact bC
  ·split
   ·exact bC
   ·rename_i s hs;have h8:=hk.n8 s (Xl hs);split
    ·exact bC
    ·exact qk hk ⟨by show (s.faces.eraseIdx _).length≤_;rw[Z8];split<;>omega,fun f hf=>by have:=h8.2 f (List.mem_of_mem_eraseIdx hf);omega⟩
theorem Dr (v:Vpc)(sub id:Int):nm (gn v sub id).1:=by
 unfold gn;split
 ·exact bC
 ·rename_i hc;have hk:=aY (by simpa using hc);split
  ·exact bC
  ·split
   ·exact bC
   ·rename_i s hs;have h8:=hk.n8 s (Xl hs);split
    ·exact bC
    ·split
     ·exact bC
     ·rename_i f hf;have gY:=h8.2 f (Xl hf);split
      ·exact bC
      ·split
       ·exact bC
       ·refine qk hk ⟨by show (s.faces.set _ _).length≤_;rw[YV];omega,fun g hg=>?_⟩;rcases Y4 hg with hg|rfl
        ·have:=h8.2 g hg;omega
        ·show (di _ _ f.addrs).length≤_;rw[fi];omega
theorem gP (n:Net)(id:Int)(hl:n.vpcs.length≤1000000000):af prog 24 [.agg (aK n),.v (.int .i64 id)] (.v (.int .i64 (cz (fun v=>v.id==id) n.vpcs))):=by
 refine pj func24 ntmps24 results24 ?_;refine am ?_<;>intros;refine bo ae ak n.vpcs (fun k=>(n.vpcs.take k).all (fun v=>!(v.id==id))=true) (fun k=>[(5,.d (.v (.int .i64 k))),(4,.d (.v (.int .i64 0))),(2,.ptr 0 0),(1,.d (.v (.int .i64 id)))]) (fun _=>[.box 28 ((aK n).map .d)]) rfl (wf) ?_ ?_
 ·intro k p hp hk hI C hC;have dM:(k:Int) < (n.vpcs.length:Int):=by omega
  have cR:=wi k (by omega);replace hI:=Xj hI;refine xo ?_ ?_<;>intros
  ·rename_i h1;exact re (vK hp (by simpa using h1) hI.out).symm
  ·rename_i h1;exact hC _ _ (d9 hp hI.out (by simpa using h1)) (wf)
 ·intro hI C;replace hI:=Xj hI;refine am ?_<;>intros;exact re (Au hI.out).symm
theorem j0 (n:Net)(id:Int):cz (fun v=>v.id==id) n.vpcs=match eR n id with|some i=>(i:Int)|none=> -1:=rfl
def jK (n:Net)(a b:Int):Bool:=n.links.any fun y=>decide (y=fG a b)
theorem sU (n:Net)(a b:Int)(hl:n.links.length≤1000000000):af prog 165 [.agg (aK n),.v (.int .i64 a),.v (.int .i64 b)] (.v (.bool (jK n a b))):=by
 obtain⟨R,hR⟩:∃R,R=jK n a b:=⟨_,rfl⟩;rw[←hR];replace hR:=Xj hR;refine pj func165 ntmps165 results165 ?_;refine am ?_<;>intros;refine bo ae ak n.links (fun k=>(n.links.take k).all (fun y=>!decide (y=fG a b))=true) (fun k=>[(7,.d (.v (.int .i64 k))),(6,.d (.v (.bool false))),(3,.ptr 0 0),(2,.d (.v (.int .i64 b))),(1,.d (.v (.int .i64 a)))]) (fun _=>[.box 28 ((aK n).map .d)]) rfl (wf) ?_ ?_
 ·intro k p hp hk hI C hC;have dM:(k:Int) < (n.links.length:Int):=by omega
  have cR:=wi k (by omega);have he:([p.a,p.b]==[if b < a then b else a,if a < b then b else a])=decide (p=fG a b):=wj p (fG a b);have FW:decide (p=fG a b)=true→R=true:=fun h=>by rw[hR.out];exact XU.2 ⟨p,Xl hp,h⟩
  have cg:decide (p=fG a b)=false→(n.links.take (k+1)).all (fun y=>!decide (y=fG a b))=true:=fun h=>d9 hp hI (by simpa using h);generalize decide (p=fG a b)=t at*;replace hI:=Xj hI;replace FW:=Xj FW;replace cg:=Xj cg;cases t with
  |true=>
   have hr:=FW.out rfl;rw[hr];replace hr:=Xj hr;exact bc;all_goals exact ai.refl _
  |false=>
   refine am ?_<;>intros;exact hC _ _ (cg.out rfl) (wf)
 ·intro hI C;have hr:R=false:=by
   rw[hR.out];unfold jK;rw[Xt,XC]at hI;rw[Yh];intro y hy;have:=hI y hy;simpa using this
  rw[hr];replace hr:=Xj hr;replace hI:=Xj hI;exact bc;all_goals exact ai.refl _
theorem Ds (v w:Vpc)(hv:v.ranges.length≤1000000000)(hw:w.ranges.length≤1000000000):af prog 109 [.agg (al v),.agg (al w)] (.v (.bool (dH v w))):=by
 obtain⟨R,hR⟩:∃R,R=dH v w:=⟨_,rfl⟩;rw[←hR];replace hR:=Xj hR;refine pj func109 ntmps109 results109 ?_;refine am ?_<;>intros;refine bo ae ak v.ranges (fun k=>(v.ranges.take k).all (fun r=>!(w.ranges.any fun q=>r.at_.meets q.at_))=true) (fun k=>[(5,.d (.v (.int .i64 k))),(4,.d (.v (.bool false))),(3,.ptr 1 0),(2,.ptr 0 0)]) (fun _=>[.box 55 ((al v).map .d),.box 55 ((al w).map .d)]) rfl (wf) ?_ ?_
 ·intro k r Sq hk hI C hC;have dM:(k:Int) < (v.ranges.length:Int):=by omega
  have cR:=wi k (by omega);have Nb:(w.ranges.any fun q=>r.at_.meets q.at_)=false→(v.ranges.take (k+1)).all (fun r=>!(w.ranges.any fun q=>r.at_.meets q.at_))=true:=fun h=>d9 Sq hI (by rw[h];rfl);have FW:(w.ranges.any fun q=>r.at_.meets q.at_)=true→R=true:=fun h=>by rw[hR.out];exact XU.2 ⟨r,Xl Sq,h⟩
  replace hI:=Xj hI;replace Nb:=Xj Nb;replace FW:=Xj FW;refine am ?_<;>intros;refine bo ae ak w.ranges (fun j=>(w.ranges.take j).all (fun q=>!(r.at_.meets q.at_))=true) (fun j=>[(6,.d (.v (.int .i64 j))),(5,.d (.v (.int .i64 k))),(4,.d (.v (.bool false))),(3,.ptr 1 0),(2,.ptr 0 0)]) (fun _=>[.box 55 ((al v).map .d),.box 55 ((al w).map .d)]) rfl (wf) ?_ ?_
  ·intro j q hq hj hJ C2 jI;have ip:(j:Int) < (w.ranges.length:Int):=by omega
   have kj:=wi j (by omega);have nN:=p5 r.at_ q.at_;rw[fg]at nN;cases b:r.at_.meets q.at_ with
   |true=>
    have hr:=FW.out (XU.2 ⟨q,Xl hq,b⟩);rw[b]at nN;rw[hr];replace hr:=Xj hr;replace hJ:=Xj hJ;exact bc;all_goals exact ai.refl _
   |false=>
    rw[b]at nN;have hn:=d9 hq hJ (by rw[b];rfl);replace hn:=Xj hn;replace hJ:=Xj hJ;refine am ?_<;>intros;exact jI _ _ hn.out (wf)
  ·intro hJ C2;have hn:=Nb.out (by
    rw[Xt,XC]at hJ;rw[Yh];intro q hq;have:=hJ q hq;simpa using this)
   replace hJ:=Xj hJ;replace hn:=Xj hn;refine am ?_<;>intros;exact hC _ _ hn.out (wf)
 ·intro hI C;have hr:R=false:=by
   rw[hR.out];rw[Xt,XC]at hI;unfold dH;rw[Yh];intro y hy;have:=hI y hy;simpa using this
  rw[hr];replace hr:=Xj hr;replace hI:=Xj hI;exact bc;all_goals exact ai.refl _
def tT (lk:Nat→Nat→Bool)(i k:Nat)(l:List Bool):List Bool:=l.set k (l.getD k false||(l.getD i false&&lk i k))
def qm (lk:Nat→Nat→Bool)(l:List Bool)(i:Nat):Nat→List Bool
 |0=>l
 |k+1=>tT lk i k (qm lk l i k)
def iL (lk:Nat→Nat→Bool)(l:List Bool):Nat→List Bool
 |0=>l
 |i+1=>qm lk (iL lk l i) i l.length
def dJ (lk:Nat→Nat→Bool)(l:List Bool):Nat→List Bool
 |0=>l
 |t+1=>iL lk (dJ lk l t) l.length
def Dt:List Bool→List Bool→Prop
 |[],[]=>True
 |a::l,b::m=>(a=true→b=true)∧Dt l m
 |_,_=>False
theorem oH:∀l,Dt l l
 |[]=>trivial
 |_::l=>⟨id,oH l⟩
theorem o9:∀{l m k:List Bool},Dt l m→Dt m k→Dt l k
 |[],[],[],_,_=>trivial
 |_::_,_::_,_::_,⟨h1,h2⟩,⟨g1,g2⟩=>⟨fun h=>g1 (h1 h),o9 h2 g2⟩
theorem oI:∀{l m:List Bool},Dt l m→Dt m l→l=m
 |[],[],_,_=>rfl
 |a::l,b::m,⟨h1,h2⟩,⟨g1,g2⟩=>by
  rw[oI h2 g2];cases a<;>cases b<;>simp_all
theorem rC:∀{l m:List Bool},Dt l m→m.length=l.length
 |[],[],_=>rfl
 |_::_,_::_,⟨_,h⟩=>by simp[rC h]
theorem GN:∀{l m:List Bool},Dt l m→∀{k},l.getD k false=true→m.getD k false=true
 |[],[],_,_,h=>h
 |_::_,_::_,⟨h1,_⟩,0,h=>by simpa using h1 (by simpa using h)
 |_::_,_::_,⟨_,h2⟩,k+1,h=>by simpa using GN h2 (k:=k) (by simpa using h)
theorem zx:∀{l m:List Bool},Dt l m→l=m∨l.count true < m.count true
 |[],[],_=> .inl rfl
 |a::l,b::m,⟨h1,h2⟩=>by
  rcases zx h2 with rfl|h
  ·cases a<;>cases b<;>simp_all
  ·right;cases a<;>cases b<;>simp_all<;>omega
theorem GP:∀(l:List Bool) (k:Nat) (b:Bool),Dt l (l.set k (l.getD k false||b))
 |[],_,_=>by simp[Dt]
 |a::l,0,b=>by simp only[Xu,List.getD_cons_zero];exact⟨fun h=>by simp[h],oH l⟩
 |a::l,k+1,b=>by simp only[Xx,List.getD_cons_succ];exact⟨id,GP l k b⟩
section
variable (lk:Nat→Nat→Bool)
theorem LZ (i k:Nat)(l:List Bool):Dt l (tT lk i k l):=GP l k _
theorem np (l:List Bool)(i:Nat):∀k d,Dt (qm lk l i k) (qm lk l i (k+d))
 |_,0=>oH _
 |k,d+1=>o9 (np l i k d) (LZ lk i (k+d) _)
theorem j1 (l:List Bool):∀i d,Dt (iL lk l i) (iL lk l (i+d))
 |_,0=>oH _
 |i,d+1=>o9 (j1 l i d) (by have:=np lk (iL lk l (i+d)) (i+d) 0 l.length;rw[XG]at this;exact this)
theorem Du (l:List Bool)(i:Nat):(iL lk l i).length=l.length:=rC (by have:=j1 lk l 0 i;rw[XG]at this;exact this)
theorem Dv (l:List Bool)(i k:Nat):(qm lk l i k).length=l.length:=rC (by have:=np lk l i 0 k;rw[XG]at this;exact this)
theorem pb (l:List Bool):∀t,Dt l (dJ lk l t)
 |0=>oH _
 |t+1=>o9 (pb l t) (by have h:=rC (pb l t);have:=j1 lk (dJ lk l t) 0 l.length;rw[XG]at this;exact this)
theorem oJ (l:List Bool)(t:Nat):(dJ lk l t).length=l.length:=rC (pb lk l t)
theorem L0 {l:List Bool}(h:iL lk l l.length=l){i k:Nat}(hi:i < l.length)(hk:k < l.length)(h1:l.getD i false=true)(h2:lk i k=true):l.getD k false=true:=by
 have a1:=j1 lk l 0 i;have a2:=j1 lk l i (l.length - i);rw[XG]at a1;rw[show i+(l.length - i)=l.length by omega,h]at a2;have e1:iL lk l i=l:=oI a2 a1;have a3:=j1 lk l i 1;have a4:=j1 lk l (i+1) (l.length - (i+1));rw[show i+1+(l.length - (i+1))=l.length by omega,h]at a4;have e2:iL lk l (i+1)=l:=by rw[e1]at a3;exact oI a4 a3
 simp only[iL,e1]at e2;have b1:=np lk l i 0 k;have b2:=np lk l i k (l.length - k);rw[XG]at b1;rw[show k+(l.length - k)=l.length by omega,e2]at b2;have e3:qm lk l i k=l:=oI b2 b1;have b3:=np lk l i k 1;have b4:=np lk l i (k+1) (l.length - (k+1));rw[show k+1+(l.length - (k+1))=l.length by omega,e2]at b4;have e4:qm lk l i (k+1)=l:=by rw[e3]at b3;exact oI b4 b3
 simp only[qm,e3,tT]at e4;rw[←e4,h1,h2];simp[XK,hk]
theorem zy (l:List Bool)(hc:0 < l.count true):∀t,iL lk (dJ lk l t) l.length=dJ lk l t∨t < (dJ lk l t).count true
 |0=> .inr hc
 |t+1=>by
  rcases zy l hc t with h|h
  ·left;simp only[dJ,h]
  ·have hl:=oJ lk l t;have hle:=j1 lk (dJ lk l t) 0 l.length;rw[XG]at hle;rcases zx (show Dt (dJ lk l t) (dJ lk l (t+1)) from hle)with he|he
   ·left;have e2:dJ lk l (t+1)=iL lk (dJ lk l t) l.length:=rfl;rw[←he];rw[←e2,←he]
   ·right;omega
theorem AM (l:List Bool)(hc:0 < l.count true){i k:Nat}(hi:i < l.length)(hk:k < l.length)(h1:(dJ lk l l.length).getD i false=true)(h2:lk i k=true):(dJ lk l l.length).getD k false=true:=by
 have hl:=oJ lk l l.length;rcases zy lk l hc l.length with h|h
 ·exact L0 lk (by rw[hl];exact h) (by rw[hl];exact hi) (by rw[hl];exact hk) h1 h2
 ·have:=List.count_le_length (a:=true) (l:=dJ lk l l.length);omega
theorem L1 {G:Nat→Prop}(hG:∀i k,G i→lk i k=true→G k){l:List Bool}(h:∀k,l.getD k false=true→G k)(i k:Nat):∀j,(tT lk i k l).getD j false=true→G j:=by
 intro j hj;unfold tT at hj;rw[XK,Z3]at hj;split at hj
 ·rename_i e;subst e;split at hj
  ·simp only[YI,Bool.or_eq_true,Xy]at hj;rcases hj with hj|hj
   ·exact h _ hj
   ·exact hG i k (h _ hj.1) hj.2
  ·simp at hj
 ·exact h j (by rw[XK];exact hj)
theorem GQ {G:Nat→Prop}(hG:∀i k,G i→lk i k=true→G k){l:List Bool}(h:∀k,l.getD k false=true→G k)(i:Nat):∀k j,(qm lk l i k).getD j false=true→G j
 |0=>h
 |k+1=>L1 lk hG (GQ hG h i k) i k
theorem Dw {G:Nat→Prop}(hG:∀i k,G i→lk i k=true→G k){l:List Bool}(h:∀k,l.getD k false=true→G k):∀i j,(iL lk l i).getD j false=true→G j
 |0=>h
 |i+1=>GQ lk hG (Dw hG h i) i _
theorem zA {G:Nat→Prop}(hG:∀i k,G i→lk i k=true→G k){l:List Bool}(h:∀k,l.getD k false=true→G k):∀t j,(dJ lk l t).getD j false=true→G j
 |0=>h
 |t+1=>Dw lk hG (zA hG h t) _
end
def fy (L:List Lnk):Int→Int:=L.foldl fQ (fun x=>x)
theorem Fl {F:Int→Int}{x y:Int}(h:F x=F y)(l:Lnk):fQ F l x=fQ F l y:=by unfold fQ;rw[h]
theorem wx {x y:Int}:∀(L:List Lnk) (F:Int→Int),F x=F y→L.foldl fQ F x=L.foldl fQ F y
 |[],_,h=>h
 |l::L,F,h=>wx L _ (Fl h l)
theorem wy {l:Lnk}:∀(L:List Lnk) (F:Int→Int),l∈L→L.foldl fQ F l.a=L.foldl fQ F l.b
 |m::L,F,h=>by
  rcases X7.1 h with rfl|h
  ·refine wx L _ ?_;unfold fQ;rw[if_pos rfl];split<;>rfl
  ·exact wy L _ h
theorem wA {L:List Lnk}{l:Lnk}(h:l∈L):fy L l.a=fy L l.b:=wy L _ h
theorem tU {S:Int→Prop}:∀(L:List Lnk) (F:Int→Int),(∀l∈L,S l.a↔S l.b)→(∀x y,F x=F y→(S x↔S y))→∀x y,L.foldl fQ F x=L.foldl fQ F y→(S x↔S y)
 |[],_,_,hF,x,y,h=>hF x y h
 |l::L,F,hL,hF,x,y,h=>by
  refine tU L (fQ F l) (fun m hm=>hL m (Zc _ hm)) (fun u v Nc=>?_) x y h;have hl:=hL l (by simp);unfold fQ at Nc;by_cases h1:F u=F l.b
  ·by_cases h2:F v=F l.b
   ·exact hF u v (h1.trans h2.symm)
   ·rw[if_pos h1,if_neg h2]at Nc;exact(hF u l.b h1).trans (hl.symm.trans (hF l.a v Nc))
  ·by_cases h2:F v=F l.b
   ·rw[if_neg h1,if_pos h2]at Nc;exact(hF u l.a Nc).trans (hl.trans (hF v l.b h2).symm)
   ·rw[if_neg h1,if_neg h2]at Nc;exact hF u v Nc
theorem tV {S:Int→Prop}{L:List Lnk}(hL:∀l∈L,S l.a↔S l.b){x y:Int}(h:fy L x=fy L y):S x↔S y:=
 tU L _ hL (fun x y h=>by rw[h]) x y h
theorem Fm {L M:List Lnk}(h:∀l,l∈L↔l∈M){x y:Int}:fy L x=fy L y↔fy M x=fy M y:=by
 have key:∀{L M:List Lnk},(∀l,l∈L↔l∈M)→fy L x=fy L y→fy M x=fy M y:=fun {L M} h e=>
  ((tV (S:=fun z=>fy M z=fy M y) (L:=L) (fun l hl=>by
   have:=wA ((h l).1 hl);rw[this]) e).2 rfl)
 exact⟨key h,key fun l=>(h l).symm⟩
theorem Fn (L:List Lnk)(l:Lnk):fy (L++[l])=fQ (fy L) l:=by unfold fy;rw[Zn];rfl
theorem IL {F:Int→Int}{l:Lnk}{x y:Int}:fQ F l x=fQ F l y↔F x=F y∨(F x=F l.a∧F y=F l.b)∨(F x=F l.b∧F y=F l.a):=by
 unfold fQ;by_cases h1:F x=F l.b<;>by_cases h2:F y=F l.b
 ·rw[if_pos h1,if_pos h2];simp[h1,h2]
 ·rw[if_pos h1,if_neg h2];constructor
  ·intro h;exact .inr (.inr ⟨h1,h.symm⟩)
  ·rintro (h|h|h)
   ·exact absurd (h.symm.trans h1) h2
   ·exact absurd h.2 h2
   ·exact h.2.symm
 ·rw[if_neg h1,if_pos h2];constructor
  ·intro h;exact .inr (.inl ⟨h,h2⟩)
  ·rintro (h|h|h)
   ·exact absurd (h.trans h2) h1
   ·exact h.1
   ·exact absurd h.1 h1
 ·rw[if_neg h1,if_neg h2];constructor
  ·intro h;exact .inl h
  ·rintro (h|h|h)
   ·exact h
   ·exact absurd h.2 h2
   ·exact absurd h.1 h1
theorem L2 {l:Lnk}(h:l.a < l.b):fG l.a l.b=l∧fG l.b l.a=l:=by
 unfold fG;rw[if_neg (by omega),if_pos h,if_pos h,if_neg (by omega)];exact⟨rfl,rfl⟩
theorem L3 {L:List Lnk}{a b:Int}(h:fG a b∈L):fy L a=fy L b:=by
 have:=wA h;unfold fG at this;by_cases h1:b < a
 ·rw[if_pos h1,if_neg (by omega)]at this;exact this.symm
 ·rw[if_neg h1]at this;split at this
  ·exact this
  ·have:a=b:=by omega
   rw[this]
def Np (L:List Lnk)(ids:List Int)(i k:Nat):Bool:=decide (fG (ids.getD i 0) (ids.getD k 0)∈L)
theorem Dx {L:List Lnk}{ids:List Int}(hn:ids.Nodup)(hl:∀l∈L,l.a∈ids∧l.b∈ids∧l.a < l.b){i k:Nat}(hi:i < ids.length)(hk:k < ids.length):
 (dJ (Np L ids) ((XV ids.length false).set i true) ids.length).getD k false=(fy L (ids.getD k 0)==fy L (ids.getD i 0)):=by
 have bR:((XV ids.length false).set i true).length=ids.length:=by simp
 have pr:0 < ((XV ids.length false).set i true).count true:=by
  rw[List.count_pos_iff,X0];exact⟨i,by simpa using hi,by simp⟩
 have V1:∀j,((XV ids.length false).set i true).getD j false=true→j=i:=by
  intro j hj;rw[XK,Z3]at hj;split at hj
  ·rename_i e;exact e.symm
  ·rw[ZX]at hj;split at hj<;>simp at hj
 have fV:=fun(i k:Nat)=>AM (Np L ids) _ pr (i:=i) (k:=k);rw[bR]at fV;rw[Yi,beq_iff_eq];constructor
 ·intro h;exact zA (Np L ids) (G:=fun j=>fy L (ids.getD j 0)=fy L (ids.getD i 0)) (fun u v hu Nc=>by
   unfold Np at Nc;rw[decide_eq_true_eq]at Nc;show fy L _=_;rw[←L3 Nc];exact hu) (fun j hj=>by rw[V1 j hj]) _ k h
 ·intro h;have fU:∀x∈ids,∃j,j < ids.length∧ids.getD j 0=x:=fun x hx=>by
   obtain⟨j,hj,rfl⟩:=X0.1 hx;exact⟨j,hj,by simp[XK,hj]⟩
  have hS:=tV (L:=L) (S:=fun x=>∃j,j < ids.length∧ids.getD j 0=x∧(dJ (Np L ids) ((XV ids.length false).set i true) ids.length).getD j false=true) (fun l xm=>by
   obtain⟨ha,hb,gJ⟩:=hl l xm;obtain⟨u,hu,eu⟩:=fU _ ha;obtain⟨v,hv,ev⟩:=fU _ hb;constructor
   ·rintro⟨j,hj,ej,h2⟩;refine⟨v,hv,ev,fV j v hj hv h2 ?_⟩;unfold Np;rw[ej,ev,(L2 gJ).1,decide_eq_true_eq];exact xm
   ·rintro⟨j,hj,ej,h2⟩;refine⟨u,hu,eu,fV j u hj hu h2 ?_⟩;unfold Np;rw[ej,eu,(L2 gJ).2,decide_eq_true_eq];exact xm) h
  obtain⟨j,hj,ej,h2⟩:=hS.2 ⟨i,hi,rfl,GN (pb _ _ _) (by simp[XK,hi])⟩;have:j=k:=by
   have e1:ids[j]=ids[k]:=by simpa[XK,hj,hk]using ej
   rcases Zb j k with h|h|h
   ·exact absurd e1 (XF.1 hn j k hj hk h)
   ·exact h
   ·exact absurd e1.symm (XF.1 hn k j hk hj h)
  rw[←this];exact h2
theorem wB (n:Net):aW n=fy n.links:=by
 unfold aW SV fy;have key:∀(L:List Lnk) (s:List (List Int × Int) × (Int→Int)),(L.foldl pG s).2=L.foldl fQ s.2:=by
  intro L;induction L with
  |nil=>intro s;rfl
  |cons l L ih=>intro s;rw[YO,YO,ih];rfl
 exact key _ _
@[go_sem] def mH (b:Bool):List D:=[.v (.bool b)]
@[go_sem] theorem GR (n:Nat)(b:Bool):XV n [PV.d (.v (.bool b))]=ab ((XV n b).map mH):=by simp[ab,mH,List.map_replicate]
theorem L4 (l:List Bool)(i:Nat)(b:Bool):(ab (l.map mH)).set i [.d (.v (.bool b))]=ab ((l.set i b).map mH):=bO mH l i b
theorem Rl {n:Net}{i k:Nat}{v w:Vpc}(hv:n.vpcs[i]? =some v)(hw:n.vpcs[k]? =some w):Np n.links (n.vpcs.map (·.id)) i k=jK n v.id w.id:=by
 have e1:(n.vpcs.map (·.id)).getD i 0=v.id:=by simp[XK,hv]
 have e2:(n.vpcs.map (·.id)).getD k 0=w.id:=by simp[XK,hw]
 unfold Np jK;rw[e1,e2,Yi,decide_eq_true_eq,XU];simp
theorem IM {n:Net}(hr:n.vpcs.Pairwise fun a b=>a.id < b.id):(n.vpcs.map (·.id)).Nodup:=by
 unfold List.Nodup;rw[Y3];exact hr.imp fun h=>by omega
theorem wC (n:Net)(id:Int)(i0:Nat)(hx:eR n id=some i0)(h6:n.vpcs.length≤6)(MS:n.links.length≤12)(hr:n.vpcs.Pairwise fun a b=>a.id < b.id)(hl:∀l∈n.links,l.a∈n.vpcs.map (·.id)∧l.b∈n.vpcs.map (·.id)∧l.a < l.b):
 af prog 108 [.agg (aK n),.v (.int .i64 id)] (.sl 1 ((oE n id).map cy)):=by
 obtain⟨v0,Jy,V2,j4,tj⟩:=eo hx;have db:=gP n id (by omega);rw[j0,hx]at db
 simp only at db
 obtain⟨lk,jc⟩:∃lk,lk=Np n.links (n.vpcs.map (·.id)):=⟨_,rfl⟩;obtain⟨l0,pM⟩:∃l0,l0=(XV n.vpcs.length false).set i0 true:=⟨_,rfl⟩;have xm:l0.length=n.vpcs.length:=by rw[pM];simp
 have rT:∀(k:Nat) (v:Vpc),n.vpcs[k]? =some v→(dJ lk l0 n.vpcs.length)[k]? =some (aW n v.id==aW n id):=fun k v hv=>by
  have hk:=(Xn.1 hv).1;have h:=Dx (L:=n.links) (ids:=n.vpcs.map (·.id)) (IM hr) hl (i:=i0) (k:=k) (by simpa using j4) (by simpa using hk);have e1:(n.vpcs.map (·.id)).getD k 0=v.id:=by simp[XK,hv]
  have e2:(n.vpcs.map (·.id)).getD i0 0=id:=by simp[XK,Jy,V2]
  rw[e1,e2,XD,←jc,←pM,←wB]at h;have i7:k < (dJ lk l0 n.vpcs.length).length:=by rw[oJ,xm];exact hk
  rw[←h,XK,Xk i7];rfl
 have Je:0 < n.vpcs.length:=by omega
 have Qp:0 < (n.vpcs.length:Int):=by omega
 have gS:(ab ((XV n.vpcs.length false).map mH)).set i0 [.d (.v (.bool true))]=ab (l0.map mH):=by rw[L4,←pM]
 have Ny:(0:Int)≤(i0:Int):=by omega
 have DW:(XV n.vpcs.length false)[i0]? =some false:=by rw[ZX,if_pos j4]
 have Eg:oE n id=(n.vpcs.filter fun v=>aW n v.id==aW n id).map (·.id):=rfl;rw[Eg];clear Eg hx tj hl hr;replace rT:=Xj rT;replace pM:=Xj pM;replace V2:=Xj V2;replace jc:=Xj jc;refine pj func108 ntmps108 results108 ?_;repeat' (first|(with_reducible refine And.intro ?_ ?_)|(with_reducible refine cn (fun _=>?_) (fun _=>?_))|(with_reducible refine aA (fun _=>?_) (fun _=>?_))|(with_reducible refine be (by kernel_rfl))|simp -dsimp only[go_sem,seval, *,aK,mH,DW,GR,Qp,j4,Ny,gS,List.length_replicate]|((with_reducible refine bf ?_);simp -dsimp only[go_sem,seval,aK,mH,DW,GR,Qp,j4,Ny,gS,List.length_replicate];first|refine aC (by first|assumption|exact db) (by first|exact .inl rfl|exact .inr rfl) ?_|(refine aB (by assumption) ?_ ?_ ?_;(solve|(repeat(first|exact ai.refl _|exact ai.nil _|(refine ai.tup ?_)|(refine ai.agg ?_ rfl)|exact trivial|(refine And.intro ?_ ?_))));(solve|exact .inl rfl|exact .inr rfl)))|fail|omega|exact decide_eq_true (by omega)|exact ai.refl _)
 clear db gS Jy DW;refine qR ae ak n.vpcs.length (fun _=>True) (fun t=>[(6,.d (.v (.int .i64 t))),(5,.own 1 0),(4,.d (.v (.slice none 0 0))),(2,.ptr 0 0)])
  (fun t=>[.box 28 ((aK n).map .d),.row 4 1 0 (ab ((dJ lk l0 t).map mH))]) trivial (wf) ?_ ?_
 ·intro t ht _ CT hCT;have htI:(t:Int) < (n.vpcs.length:Int):=by omega
  have PK:=wi t (by omega);have hlt:=oJ lk l0 t;rw[xm]at hlt;have qr:dJ lk l0 (t+1)=iL lk (dJ lk l0 t) n.vpcs.length:=by show iL lk (dJ lk l0 t) l0.length=_;rw[xm]
  replace qr:=Xj qr;generalize dJ lk l0 t=A at*;refine am ?_<;>intros;refine qR ae ak n.vpcs.length (fun _=>True) (fun i=>[(7,.d (.v (.int .i64 i))),(6,.d (.v (.int .i64 t))),(5,.own 1 0),(4,.d (.v (.slice none 0 0))),(2,.ptr 0 0)])
   (fun i=>[.box 28 ((aK n).map .d),.row 4 1 0 (ab ((iL lk A i).map mH))]) trivial (wf) ?_ ?_
  ·intro i hi _ CI hCI;have a0f:(i:Int) < (n.vpcs.length:Int):=by omega
   have uJ:=wi i (by omega);have oP:=Du lk A i;rw[hlt]at oP;have Sd:iL lk A (i+1)=qm lk (iL lk A i) i n.vpcs.length:=by show qm lk (iL lk A i) i A.length=_;rw[hlt]
   replace Sd:=Xj Sd;obtain⟨vi,Ug⟩:∃v,n.vpcs[i]? =some v:=⟨_,Xk hi⟩;generalize iL lk A i=B at*;refine am ?_<;>intros;refine qR ae ak n.vpcs.length (fun _=>True) (fun k=>[(8,.d (.v (.int .i64 k))),(7,.d (.v (.int .i64 i))),(6,.d (.v (.int .i64 t))),(5,.own 1 0),(4,.d (.v (.slice none 0 0))),(2,.ptr 0 0)])
    (fun k=>[.box 28 ((aK n).map .d),.row 4 1 0 (ab ((qm lk B i k).map mH))]) trivial (wf) ?_ ?_
   ·intro k hk _ C hC;have dM:(k:Int) < (n.vpcs.length:Int):=by omega
    have TY:=wi k (by omega);have V3:=Dv lk B i k;rw[oP]at V3;have dS:qm lk B i (k+1)=tT lk i k (qm lk B i k):=rfl;obtain⟨vk,pw⟩:∃v,n.vpcs[k]? =some v:=⟨_,Xk hk⟩;have NA:=sU n vi.id vk.id (by omega);have jn:lk i k=jK n vi.id vk.id:=by rw[jc.out];exact Rl Ug pw
    generalize qm lk B i k=M at*;obtain⟨bk,co⟩:∃b,M[k]? =some b:=⟨_,Xk (by omega)⟩;obtain⟨bi,Ta⟩:∃b,M[i]? =some b:=⟨_,Xk (by omega)⟩;have pq:tT lk i k M=M.set k (bk||(bi&&jK n vi.id vk.id)):=by unfold tT;rw[jn];simp[XK,co,Ta]
    generalize jK n vi.id vk.id=q at*;have bZ:=fun b=>L4 M k b;clear jn;replace dS:=Xj dS;replace pq:=Xj pq;cases bk with
    |true=>
     refine am ?_<;>intros;refine hC _ _ trivial ?_;rw[dS.out,pq.out];exact wf
    |false=>
     cases bi with
     |false=>
      refine am ?_<;>intros;refine hC _ _ trivial ?_;rw[dS.out,pq.out];exact wf
     |true=>
      refine am ?_<;>intros;refine hC _ _ trivial ?_;rw[dS.out,pq.out];exact wf
   ·intro _ C;have Nd:=Dv lk B i n.vpcs.length;rw[oP]at Nd;refine am ?_<;>intros;refine hCI _ _ trivial ?_;rw[Sd.out];exact wf
  ·intro _ C;have Nd:=Du lk A n.vpcs.length;rw[hlt]at Nd;refine am ?_<;>intros;refine hCT _ _ trivial ?_;rw[qr.out];exact wf
 ·intro _ C;have Nd:=oJ lk l0 n.vpcs.length;rw[xm]at Nd;generalize dJ lk l0 n.vpcs.length=M at*;refine am ?_<;>intros;refine bL ae ak (fun m e h=>∃(k g:Nat),k≤n.vpcs.length∧m=n.vpcs.length - k∧e=[(10,.d (.v (.int .i64 k))),(9,.own 2 g),(5,.own 1 0),(4,.d (.v (.slice none 0 0))),(2,.ptr 0 0)]∧
   h=[.box 28 ((aK n).map .d),.row 4 1 0 (ab (M.map mH)),.row 3 1 g (ab ((((n.vpcs.take k).filter fun v=>aW n v.id==aW n id).map (·.id)).map cy))]) _ _ _ ⟨0,0,XE _,rfl,rfl,rfl⟩ ?_ ?_
  ·refine(dr (by simp) 9 3 1 rfl).trans ?_;exact wf
  ·rintro m e h ⟨k,g,hk,hm,rfl,rfl⟩ C hC;by_cases hlt:k < n.vpcs.length
   ·have dM:(k:Int) < (n.vpcs.length:Int):=by omega
    have cR:=wi k (by omega);obtain⟨v,hv⟩:∃v,n.vpcs[k]? =some v:=⟨_,Xk hlt⟩;have co:=rT.out k v hv;have gY:((n.vpcs.take k).filter fun v=>aW n v.id==aW n id).length≤k:=by
     have:=Za (fun v:Vpc=>aW n v.id==aW n id) (n.vpcs.take k);rw[Xq]at this;omega
    have RM:((n.vpcs.take k).filter fun v=>aW n v.id==aW n id).length+1≤100:=by omega
    have dS:(n.vpcs.take (k+1)).filter (fun v=>aW n v.id==aW n id)=(n.vpcs.take k).filter (fun v=>aW n v.id==aW n id)++if (aW n v.id==aW n id)=true then [v]else []:=by
     rw[ag hv,YW];congr 1;cases hb:aW n v.id==aW n id<;>simp[hb]
    replace dS:=Xj dS;replace gY:=Xj gY;replace hm:=Xj hm;generalize (n.vpcs.take k).filter (fun v=>aW n v.id==aW n id)=L at*;cases e1:(aW n v.id==aW n id)with
    |false=>
     rw[e1]at dS co;refine am ?_<;>intros;refine hC _ _ _ _ _ ?_ ⟨k+1,g,hlt,rfl,rfl,rfl⟩ (wf (hh:=(by rw[dS.out];simp only[YB,if_false,Yw];rfl)) (hb:=cL) (hbh:=cL));have:=hm.out;omega
    |true=>
     rw[e1]at dS co;refine am ?_<;>intros;refine hC _ _ _ _ _ ?_ ⟨k+1,g+1,hlt,rfl,rfl,rfl⟩ (wf (hh:=(by rw[dS.out];simp only[if_true,Xo,Xm,Xv,←aI];rfl)) (hb:=cL) (hbh:=cL));have:=hm.out;omega
   ·obtain rfl:k=n.vpcs.length:=by omega
    (try rw[Xt])
    replace hm:=Xj hm;exact bc;all_goals exact dg
theorem O4 (y l:Lnk):rj y l < 0↔y.a < l.a∨(y.a=l.a∧y.b < l.b):=by
 unfold rj;simp only[CD,ez];repeat' split
 all_goals omega
theorem tW (v w:Vpc):dH v w=dH w v:=by
 have key:∀v w:Vpc,dH v w=true→dH w v=true:=fun v w h=>by
  unfold dH at h ⊢;obtain⟨r,hr,h⟩:=XU.1 h;obtain⟨q,hq,h⟩:=XU.1 h;exact XU.2 ⟨q,hq,XU.2 ⟨r,hr,by rw[p6];exact h⟩⟩
 rw[Yi];exact⟨key v w,key w v⟩
theorem IN (n:Net)(v w:Vpc):jT n v w=jT n w v:=by
 unfold jT;rw[tW v w,Bool.beq_comm]
theorem sV {n:Net}{i j:Nat}{v w:Vpc}(hij:i≠j)(hv:n.vpcs[i]? =some v)(hw:n.vpcs[j]? =some w)(h:jT n v w=true):eC n=false:=by
 rcases H' hij with hlt|hlt
 ·exact sH hlt hw hv (by rw[IN];exact h)
 ·exact sH hlt hv hw h
theorem GS {n:Net}(hr:n.vpcs.Pairwise fun a b=>a.id < b.id){i:Nat}{v w:Vpc}(hv:n.vpcs[i]? =some v)(hw:w∈n.vpcs.take i):w.id≠v.id:=by
 obtain⟨j,hj,rfl⟩:=X0.1 hw;rw[ZA];obtain⟨hi,rfl⟩:=Xn.1 hv;have:=XF.1 hr j i (by rw[Xq]at hj;omega) hi (by rw[Xq]at hj;omega);omega
theorem oK {n:Net}(hr:n.vpcs.Pairwise fun a b=>a.id < b.id){j:Nat}{w:Vpc}(hw:n.vpcs[j]? =some w):eR n w.id=some j:=by
 unfold eR;rw[XI];obtain⟨hj,rfl⟩:=Xn.1 hw;refine⟨hj,by simp,fun i hi=>?_⟩;have:=XF.1 hr i j (by omega) hj hi;simp;omega
theorem Fo {n:Net}(hr:n.vpcs.Pairwise fun a b=>a.id < b.id){id x:Int}{k:Nat}(h:(oE n id)[k]? =some x):∃j w,n.vpcs[j]? =some w∧w.id=x∧eR n x=some j∧aW n x=aW n id:=by
 have hm:=Xl h;unfold oE at hm;obtain⟨w,hw,rfl⟩:=XQ.1 hm;rw[Zt,beq_iff_eq]at hw;obtain⟨j,hj⟩:=Ze.1 hw.1;exact⟨j,w,hj,rfl,oK hr hj,hw.2⟩
theorem AN {n:Net}{id:Int}{w:Vpc}(hw:w∈n.vpcs)(h:aW n w.id=aW n id):w.id∈oE n id:=by
 unfold oE;exact XQ.2 ⟨w,Zt.2 ⟨hw,by simpa using h⟩,rfl⟩
theorem AO (n:Net)(id:Int):(oE n id).length≤n.vpcs.length:=by
 unfold oE;rw[XD];exact Za _ _
theorem O5 {n:Net}(l:Lnk):kZ n l=((eR n l.a).isSome&&((eR n l.b).isSome&&decide (l.a < l.b))):=by
 have key:∀x,(fP n x).isSome=(eR n x).isSome:=fun x=>by
  cases h:eR n x with
  |none=>rw[d5 h];rfl
  |some i=>obtain⟨v,-,-,-,h2⟩:=eo h;rw[h2];rfl
 unfold kZ;rw[key,key]
def uj (n:Net):Prop:=∀v∈n.vpcs,v.subs.length≤9223372036854775807∧∀s∈v.subs,s.faces.length≤9223372036854775807
theorem jD (n:Net)(hz:uj n):af prog 38 [.agg (aK n)] (.v (.int .i64 (cN n))):=by
 obtain⟨R,hR⟩:∃R,R=cN n:=⟨_,rfl⟩;rw[←hR];replace hR:=Xj hR;replace hz:=Xj hz;by_cases h6:n.vpcs.length>6
 ·have TO:decide ((n.vpcs.length:Int)>6)=true:=by simp;omega
  have hr:R=2:=by rw[hR.out,cN,if_pos (.inl h6)]
  rw[hr];replace hr:=Xj hr;refine pj func38 ntmps38 results38 ?_;exact bc;all_goals exact ai.refl _
 by_cases MS:n.links.length>12
 ·have TO:decide ((n.vpcs.length:Int)>6)=false:=by simp;omega
  have RN:decide ((n.links.length:Int)>12)=true:=by simp;omega
  have hr:R=2:=by rw[hR.out,cN,if_pos (.inr MS)]
  rw[hr];replace hr:=Xj hr;refine pj func38 ntmps38 results38 ?_;exact bc;all_goals exact ai.refl _
 have TO:decide ((n.vpcs.length:Int)>6)=false:=by simp;omega
 have RN:decide ((n.links.length:Int)>12)=false:=by simp;omega
 have cg:¬(n.vpcs.length>6∨n.links.length>12):=by omega
 refine pj func38 ntmps38 results38 ?_;refine am ?_<;>intros;refine bo ae ak n.vpcs (fun k=>(∀v∈n.vpcs.take k,bN v=0)∧(n.vpcs.take k).Pairwise fun a b=>a.id < b.id) (fun k=>[(3,.d (.v (.int .i64 k))),(2,.d (.v (.int .i64 0))),(1,.ptr 0 0)]) (fun _=>[.box 28 ((aK n).map .d)]) (by simp) (wf) ?_ ?_
 ·intro k v hv hk hI C hC;have dM:(k:Int) < (n.vpcs.length:Int):=by omega
  have cR:=wi k (by omega);have g7:=ag hv;have Sy:=hz.out v (Xl hv);have Vh:=gC v Sy.1 Sy.2;clear Sy;by_cases hc:bN v=0
  ·have hid:1≤v.id:=by have:=(aY hc).id;simp[cI]at this;exact this.1
   rw[hc]at Vh;have lU:(lH (n.vpcs.take k) < v.id)→(∀v∈n.vpcs.take (k+1),bN v=0)∧(n.vpcs.take (k+1)).Pairwise fun a b=>a.id < b.id:=fun h=>by
    rw[g7];exact⟨fun u hu=>by
     rcases X3.1 hu with hu|hu
     ·exact hI.1 u hu
     ·rw[Yc.1 hu];exact hc,vM hI.2 h⟩
   have bI:v.id≤lH (n.vpcs.take k)→R=1:=fun h=>by
    rw[hR.out];refine hO cg (.inl ?_);cases hb:ox n with
    |false=>rfl
    |true=>
     have:=(k5 hb (k+1)).2;rw[g7]at this;exact absurd this (y9 hid h)
   clear hI g7;replace hc:=Xj hc;replace lU:=Xj lU;replace bI:=Xj bI;by_cases hk0:k=0
   ·have MU:decide ((k:Int)>0)=false:=by simp;omega
    have hg:=lU.out (by rw[hk0];simp[lH];omega);replace hg:=Xj hg;replace hk0:=Xj hk0;refine am ?_<;>intros;exact hC _ _ hg.out (wf)
   ·obtain⟨j,hj⟩:∃j,k=j+1:=⟨k - 1,by omega⟩;obtain⟨u,hu⟩:∃u,n.vpcs[j]? =some u:=⟨_,Xk (by omega)⟩;have MU:decide ((k:Int)>0)=true:=by simp;omega
    have cl:IntKind.i64.wrap ((k:Int) - 1)=(j:Int):=by rw[IntKind.wrap_i64];omega
    have ip:(j:Int) < (n.vpcs.length:Int):=by omega
    have Bd:lH (n.vpcs.take k)=u.id:=by rw[hj];unfold lH;rw[sK hu];rfl
    replace hj:=Xj hj;replace hk0:=Xj hk0;by_cases ho:u.id≥v.id
    ·have hr:R=1:=bI.out (by rw[Bd];exact ho);rw[hr];replace hr:=Xj hr;replace Bd:=Xj Bd;exact bc;all_goals exact ai.refl _
    ·have hg:=lU.out (by rw[Bd];omega);have gp:decide (u.id≥v.id)=false:=by simpa using ho
     replace Bd:=Xj Bd;replace hg:=Xj hg;replace ho:=Xj ho;refine am ?_<;>intros;exact hC _ _ hg.out (wf)
  ·have hr:R=1:=by
    rw[hR.out];refine hO cg (.inl ?_);cases hb:ox n with
    |false=>rfl
    |true=>exact absurd ((k5 hb (k+1)).1 v (by rw[g7];simp)) hc
   have hcb:(bN v !=0)=true:=by simpa using hc
   rw[hr];clear hr hI hC g7;replace hc:=Xj hc;exact bc;all_goals exact ai.refl _
 ·intro hI C;rw[Xt]at hI;have MT:=vN hI.1 hI.2;have nJ:=hI.2;replace hI:=Xj hI;replace nJ:=Xj nJ;replace MT:=Xj MT;refine am ?_<;>intros;refine bo ae ak n.links (fun k=>(∀l∈n.links.take k,kZ n l=true)∧je (n.links.take k)=true) (fun k=>[(4,.d (.v (.int .i64 k))),(2,.d (.v (.int .i64 0))),(1,.ptr 0 0)]) (fun _=>[.box 28 ((aK n).map .d)]) (by simp[je]) (wf) ?_ ?_
  ·intro k l hl hk hJ C hC;have dM:(k:Int) < (n.links.length:Int):=by omega
   have cR:=wi k (by omega);have g7:=ag hl;have j8:=gP n l.a (by omega);have lz:=gP n l.b (by omega);rw[j0]at j8 lz;have bI:kZ n l=false→R=1:=fun h=>by
    rw[hR.out];refine hO cg (.inr (.inl ?_));rw[Y2];exact⟨l,Xl hl,by simp[h]⟩
   have jn:=O5 (n:=n) l;have gW:kZ n l=true→je (n.links.take (k+1))=true→(∀l∈n.links.take (k+1),kZ n l=true)∧je (n.links.take (k+1))=true:=fun h g=>by
    refine⟨?_,g⟩;rw[g7];intro u hu;rcases X3.1 hu with hu|hu
    ·exact hJ.1 u hu
    ·rw[Yc.1 hu];exact h
   have xd:je (n.links.take (k+1))=false→R=1:=fun h=>by
    rw[hR.out];refine hO cg (.inr (.inr (.inl ?_)));cases hb:je n.links with
    |false=>rfl
    |true=>rw[za hb]at h;cases h
   have ta:=sJ (n.links.take k) l;rw[←g7,hJ.2,Yr]at ta;have ur:decide ((-1:Int) < 0)=true:=rfl;clear g7;replace hJ:=Xj hJ;replace bI:=Xj bI;replace xd:=Xj xd;replace gW:=Xj gW;by_cases gJ:l.a < l.b
   ·have hge:decide (l.a≥l.b)=false:=by simp;omega
    cases ea:eR n l.a with
    |none=>
     rw[ea]at j8 jn;simp only at j8;have hr:R=1:=bI.out (by rw[jn];rfl);rw[hr];clear hr jn ta lz;replace ea:=Xj ea;replace gJ:=Xj gJ;exact bc;all_goals exact ai.refl _
    |some ia=>
     rw[ea]at j8 jn;simp only at j8;have PN:decide ((ia:Int) < 0)=false:=by simp
     replace ea:=Xj ea;cases eb:eR n l.b with
     |none=>
      rw[eb]at lz jn;simp only at lz;have hr:R=1:=bI.out (by rw[jn];rfl);rw[hr];clear hr jn ta;replace eb:=Xj eb;replace gJ:=Xj gJ;exact bc;all_goals exact ai.refl _
     |some ib=>
      rw[eb]at lz jn;simp only at lz;have Ub:decide ((ib:Int) < 0)=false:=by simp
      replace eb:=Xj eb;have hlt:kZ n l=true:=by rw[jn];simp[gJ]
      clear jn;replace hlt:=Xj hlt;replace gJ:=Xj gJ;by_cases hk0:k=0
      ·have MU:decide ((k:Int)>0)=false:=by simp;omega
       have hg:=gW.out hlt.out (by rw[ta,hk0];rfl);clear ta;replace hg:=Xj hg;replace hk0:=Xj hk0;refine am ?_<;>intros;exact hC _ _ hg.out (wf)
      ·obtain⟨j,hj⟩:∃j,k=j+1:=⟨k - 1,by omega⟩;obtain⟨y,hy⟩:∃y,n.links[j]? =some y:=⟨_,Xk (by omega)⟩;have MU:decide ((k:Int)>0)=true:=by simp;omega
       have cl:IntKind.i64.wrap ((k:Int) - 1)=(j:Int):=by rw[IntKind.wrap_i64];omega
       have ip:(j:Int) < (n.links.length:Int):=by omega
       have nQ:=O4 y l;rw[hj,sK hy]at ta;simp only at ta;rw[←hj]at ta;replace hj:=Xj hj;replace hk0:=Xj hk0;by_cases ho:rj y l < 0
       ·have hg:=gW.out hlt.out (by rw[ta];simpa using ho);have fq:=nQ.1 ho;clear ta nQ ho;replace hg:=Xj hg;by_cases oP:y.a < l.a
        ·have e1:decide (y.a>l.a)=false:=by simp;omega
         have e2:(y.a==l.a)=false:=by simp;omega
         clear fq oP;refine am ?_<;>intros;exact hC _ _ hg.out (wf)
        ·have e1:decide (y.a>l.a)=false:=by simp;omega
         have e2:(y.a==l.a)=true:=by simp;omega
         have e3:decide (y.b≥l.b)=false:=by simp;omega
         clear fq oP;refine am ?_<;>intros;exact hC _ _ hg.out (wf)
       ·have hr:R=1:=xd.out (by rw[ta];simpa using ho);have fq:¬(y.a < l.a∨(y.a=l.a∧y.b < l.b)):=fun h=>ho (nQ.2 h);rw[hr];clear ta hr nQ ho;by_cases oP:y.a>l.a
        ·have e1:decide (y.a>l.a)=true:=by simpa using oP
         clear fq oP;exact bc;all_goals exact ai.refl _
        ·have e1:decide (y.a>l.a)=false:=by simpa using oP
         have e2:(y.a==l.a)=true:=by simp;omega
         have e3:decide (y.b≥l.b)=true:=by simp;omega
         clear fq oP;exact bc;all_goals exact ai.refl _
   ·have hge:decide (l.a≥l.b)=true:=by simp;omega
    have hr:R=1:=bI.out (by rw[jn];simp;omega);rw[hr];clear hr jn ta j8 lz;replace gJ:=Xj gJ;exact bc;all_goals exact ai.refl _
  ·intro hJ C;rw[Xt]at hJ;have Jr:∀l∈n.links,l.a∈n.vpcs.map (·.id)∧l.b∈n.vpcs.map (·.id)∧l.a < l.b:=fun l hl=>by
    have:=hJ.1 l hl;unfold kZ at this;simp only[Xy,decide_eq_true_eq]at this;exact⟨fR this.1,fR this.2.1,this.2.2⟩
   replace hJ:=Xj hJ;replace Jr:=Xj Jr;refine am ?_<;>intros;refine bo ae ak n.vpcs (fun k=>∀v∈n.vpcs.take k,∀w∈n.vpcs,w.id≠v.id→jT n v w=false) (fun k=>[(6,.d (.v (.int .i64 k))),(2,.d (.v (.int .i64 0))),(1,.ptr 0 0)]) (fun _=>[.box 28 ((aK n).map .d)]) (by simp) (wf) ?_ ?_
   ·intro k v hv hk hK C hC;have dM:(k:Int) < (n.vpcs.length:Int):=by omega
    have cR:=wi k (by omega);have Uz:=wC n v.id k (oK nJ.out hv) (by omega) (by omega) nJ.out Jr.out;have WZ:=AO n v.id;have dS:(∀w∈n.vpcs,w.id≠v.id→jT n v w=false)→∀v∈n.vpcs.take (k+1),∀w∈n.vpcs,w.id≠v.id→jT n v w=false:=fun h u hu=>by
     rw[ag hv]at hu;rcases X3.1 hu with hu|hu
     ·exact hK u hu
     ·rw[Yc.1 hu];exact h
    have V4:∀w∈n.vpcs,aW n w.id=aW n v.id→w.id∈oE n v.id:=fun w hw h=>AN hw h;have Sz:∀(k:Nat) (x:Int),(oE n v.id)[k]? =some x→∃j w,n.vpcs[j]? =some w∧w.id=x∧eR n x=some j∧aW n x=aW n v.id:=fun k x h=>Fo nJ.out h;replace hK:=Xj hK;replace dS:=Xj dS;replace V4:=Xj V4;replace Sz:=Xj Sz;generalize oE n v.id=G at*;refine am ?_<;>intros;refine bo ae ak G (fun j=>∀w∈n.vpcs,w.id∈G.take j→w.id≠v.id→jT n v w=false) (fun j=>[(8,.d (.v (.int .i64 j))),(7,.d (.sl 1 (G.map cy))),(6,.d (.v (.int .i64 k))),(2,.d (.v (.int .i64 0))),(1,.ptr 0 0)]) (fun _=>[.box 28 ((aK n).map .d)]) (by simp) (wf) ?_ ?_
    ·intro j x hx hj hL C2 jI;have ip:(j:Int) < (G.length:Int):=by omega
     have kj:=wi j (by omega);obtain⟨q,w,hw,SA,UD,Se⟩:=Sz.out j x hx;have Uh:(x≠v.id→jT n v w=false)→∀w∈n.vpcs,w.id∈G.take (j+1)→w.id≠v.id→jT n v w=false:=fun h u hu hug bB=>by
      rw[ag hx]at hug;rcases X3.1 hug with hug|hug
      ·exact hL u hu hug bB
      ·have e1:u.id=x:=Yc.1 hug;obtain⟨p,hp⟩:=Ze.1 hu;have e2:=oK nJ.out hp;rw[e1,UD]at e2;cases e2;rw[hw]at hp;cases hp;exact h (by rw[←e1];exact bB)
     by_cases NB:x=v.id
     ·have e1:(x !=v.id)=false:=by simpa using NB
      have hn:=Uh fun h=>absurd NB h;clear Uh hL;replace hn:=Xj hn;replace NB:=Xj NB;replace SA:=Xj SA;refine am ?_<;>intros;exact jI _ _ hn.out (wf)
     ·have e1:(x !=v.id)=true:=by simpa using NB
      have db:=gP n x (by omega);rw[j0,UD]at db
      simp only at db
      have zN:=(aY (hI.out.1 v (Xl hv))).n4;have Vf:=(aY (hI.out.1 w (Xl hw))).n4;have fV:=Ds v w (by omega) (by omega);have Sf:(0:Int)≤(q:Int):=by omega
      have s6:(q:Int) < (n.vpcs.length:Int):=by have:=(Xn.1 hw).1;omega
      have UE:jT n v w=dH v w:=by unfold jT;rw[SA,Se];simp
      have V5:k≠q:=fun e=>by subst e;rw[hv]at hw;cases hw;exact NB SA.symm
      clear zN Vf;replace SA:=Xj SA;replace V5:=Xj V5;replace UD:=Xj UD;replace Se:=Xj Se;replace hL:=Xj hL;cases b:dH v w with
      |true=>
       have hr:R=1:=by
        rw[hR.out];exact hO cg (.inr (.inr (.inr (sV V5.out hv hw (by rw[UE];exact b)))))
       rw[b]at fV;rw[hr];clear hr Uh UE b;replace NB:=Xj NB;exact bc;all_goals exact ai.refl _
      |false=>
       have hn:=Uh fun _=>by rw[UE];exact b
       rw[b]at fV;clear Uh UE b;replace hn:=Xj hn;replace NB:=Xj NB;refine am ?_<;>intros;exact jI _ _ hn.out (wf)
    ·intro hL C2;rw[Xt]at hL;have hn:=dS.out fun w hw bB=>by
      by_cases hh:aW n w.id=aW n v.id
      ·exact hL w hw (V4.out w hw hh) bB
      ·unfold jT;have:(aW n v.id==aW n w.id)=false:=by simpa using fun e=>hh e.symm
       rw[this];rfl
     replace hL:=Xj hL;replace hn:=Xj hn;refine am ?_<;>intros;exact hC _ _ hn.out (wf)
   ·intro hK C;rw[Xt]at hK;have hr:R=0:=by
     rw[hR.out];refine sI cg MT.out (by rw[XC];exact hJ.out.1) hJ.out.2 (p8 fun i v w hv hw=>?_);exact hK v (Xl hv) w (Yf hw) (GS nJ.out hv hw)
    rw[hr];replace hr:=Xj hr;replace hK:=Xj hK;exact bc;all_goals exact ai.refl _
theorem wD (v:Vpc)(h4:v.ranges.length≤4)(h6:v.subs.length≤6)(h8:∀s∈v.subs,s.faces.length≤8∧∀f∈s.faces,f.addrs.length≤4):
 MSpec prog 44 [.d (.agg (al v))] [] (.agg [.d (.v (.int .i64 v.id)),.own 2 1,.own 4 v.subs.length]) [.gone,.gone,.row 58 3 1 (ab (v.ranges.map bp)),.gone,.row 71 4 v.subs.length (ab (v.subs.map aT))]:=by
 replace h8:=Xj h8;refine mj func44 ntmps44 results44 ?_;refine am ?_<;>intros;refine bo ae ak v.subs (fun _=>True) (fun k=>[(4,.d (.v (.int .i64 k))),(3,.ptr 3 0),(2,.ptr 1 0),(1,.ptr 0 0)]) (fun k=>[.box 55 ((al v).map .d),.box 55 [.d (.v (.int .i64 0)),.d (.v (.slice none 0 0)),.d (.v (.slice none 0 0))],.row 58 3 1 (ab (v.ranges.map bp)),.box 55 [.d (.v (.int .i64 v.id)),.own 2 1,.own 4 k],.row 71 4 k (ab ((v.subs.take k).map aT))]) trivial ?_ ?_ ?_
 ·refine(au (by simp) 3 55 [.d (.v (.int .i64 v.id)),.own 2 1,.d (.v (.slice none 0 0))] 2 71 4 rfl rfl rfl).trans ?_;exact wf (hb:=cL) (hbh:=cL)
 ·intro k s hs hk _ CO th;have dM:(k:Int) < (v.subs.length:Int):=by omega
  have cR:=wi k (by omega);have iO:=h8.out s (Xl hs);have jf:k+1≤100:=by omega
  have jc:(Yg k v.subs).length=k:=by rw[Xq];omega
  replace hs:=Xj hs;have lT:=hs.out;refine am ?_<;>intros;refine bo ae ak s.faces (fun _=>True) (fun j=>[(6,.d (.v (.int .i64 j))),(5,.ptr 5 0),(4,.d (.v (.int .i64 k))),(3,.ptr 3 0),(2,.ptr 1 0),(1,.ptr 0 0)])
   (fun j=>[.box 55 ((al v).map .d),.box 55 [.d (.v (.int .i64 0)),.d (.v (.slice none 0 0)),.d (.v (.slice none 0 0))],.row 58 3 1 (ab (v.ranges.map bp)),.box 55 [.d (.v (.int .i64 v.id)),.own 2 1,.own 4 k],.row 71 4 k (ab ((v.subs.take k).map aT)),.box 71 [.d (.v (.int .i64 s.id)),.d (.v (.int .i64 s.at_.at_)),.d (.v (.int .i64 s.at_.len)),.own 6 j],.row 74 2 j (ab ((s.faces.take j).map cj))]) trivial ?_ ?_ ?_
  ·refine(au (by simp) 5 71 [.d (.v (.int .i64 s.id)),.d (.v (.int .i64 s.at_.at_)),.d (.v (.int .i64 s.at_.len)),.d (.v (.slice none 0 0))] 3 74 2 rfl rfl rfl).trans ?_;exact wf (hb:=cL) (hbh:=cL)
  ·intro j f hf hj _ C hC;have ip:(j:Int) < (s.faces.length:Int):=by omega
   have kj:=wi j (by omega);have gY:=iO.2 f (Xl hf);have jm:j+1≤100:=by omega
   have pm:(Yg j s.faces).length=j:=by rw[Xq];omega
   replace hf:=Xj hf;have zQ:=hf.out;refine am ?_<;>intros;refine hC _ _ trivial ((ap 8 1 3 1 (f.addrs.map cy) rfl).trans ?_);simp only[iD,fz,gy,gj,g8,f9,aR,bS,bW,Xm,Xv,XM,XL,reduceIte,and_true,true_and,and_self,and_false,false_and,XG,XW,reduceCtorEq,cY];exact wf (hh:=(by rw[ag hf.out,Xo,Xm,Xv,←aI];rfl)) (hb:=cL) (hbh:=cL)
  ·intro _ C;refine am ?_<;>intros;refine th _ _ trivial ((ap 6 s.faces.length 74 2 (s.faces.map cj) rfl).trans ?_);simp only[iD,fz,gy,gj,g8,f9,aR,bS,bW,Xm,Xv,XM,XL,reduceIte,and_true,true_and,and_self,and_false,false_and,XG,XW,reduceCtorEq];exact wf (hh:=(by rw[ag hs.out,Xo,Xm,Xv,←aI];rfl)) (hb:=cL) (hbh:=cL)
 ·intro _ C;refine am ?_<;>intros;(try rw[Xt])
  refine(aL 0 (by simp)).trans ?_;refine(aL 1 (by simp[bw])).trans ?_;exact(aL 3 (by simp[bw])).trans (bn rfl rfl)
theorem mI (n:Net)(h6:n.vpcs.length≤6)(MS:n.links.length≤12)(hv:∀v∈n.vpcs,bN v=0):
 MSpec prog 21 [.d (.agg (aK n))] [] (.agg [.own 4 n.vpcs.length,.own 2 1]) [.gone,.gone,.row 76 2 1 (ab (n.links.map bG)),.gone,.row 55 3 n.vpcs.length (ab (n.vpcs.map al))]:=by
 replace hv:=Xj hv;refine mj func21 ntmps21 results21 ?_;refine am ?_<;>intros;refine bo ae ak n.vpcs (fun _=>True) (fun k=>[(4,.d (.v (.int .i64 k))),(3,.ptr 3 0),(2,.ptr 1 0),(1,.ptr 0 0)])
  (fun k=>[.box 28 ((aK n).map .d),.box 28 [.d (.v (.slice none 0 0)),.d (.v (.slice none 0 0))],.row 76 2 1 (ab (n.links.map bG)),.box 28 [.own 4 k,.own 2 1],.row 55 3 k (ab ((n.vpcs.take k).map al))]) trivial ?_ ?_ ?_
 ·refine(au (by simp) 3 28 [.d (.v (.slice none 0 0)),.own 2 1] 0 55 3 rfl rfl rfl).trans ?_;exact wf (hb:=cL) (hbh:=cL)
 ·intro k v Jy hk _ C hC;have dM:(k:Int) < (n.vpcs.length:Int):=by omega
  have cR:=wi k (by omega);have yd:k+1≤100:=by omega
  have Xa:(Yg k n.vpcs).length=k:=by rw[Xq];omega
  have pw:=aY (hv.out v (Xl Jy));have gp:=wD v pw.n4 pw.n6 pw.n8;clear pw;replace Jy:=Xj Jy;have Bl:=Jy.out;have z1z:=Ln.mk (ls:=[]) (gp);refine am ?_<;>intros;refine hC _ _ trivial ((ap 9 v.subs.length 71 4 (v.subs.map aT) rfl).trans ?_);simp only[iD,fz,gy,gj,g8,f9,aR,bS,bW,Xm,Xv,XM,XL,reduceIte,and_true,true_and,and_self,and_false,false_and,XG,XW,reduceCtorEq];refine(ap 7 1 58 3 (v.ranges.map bp) rfl).trans ?_;simp only[iD,fz,gy,gj,g8,f9,aR,bS,bW,Xm,Xv,XM,XL,reduceIte,and_true,true_and,and_self,and_false,false_and,XG,XW,reduceCtorEq];exact wf (hh:=(by rw[ag Jy.out,Xo,Xm,Xv,←aI];rfl)) (hb:=cL) (hbh:=cL)
 ·intro _ C;refine am ?_<;>intros;refine(aL 0 (by simp)).trans ?_;refine(aL 1 (by simp[bw])).trans ?_;exact(aL 3 (by simp[bw])).trans (bn rfl rfl)
theorem Rm {α:Type}{key:α→Int}{t:Int}{l:List α}{k:Nat}{q:α}(hk:k < jg key t l)(hq:l[k]? =some q):key q < t:=by
 obtain⟨hl,rfl⟩:=Xn.1 hq;have:=List.not_of_lt_findIdx hk;simp at this;omega
theorem Rn {α:Type}{key:α→Int}{t:Int}{l:List α}{q:α}(hq:l[jg key t l]? =some q):t≤key q:=by
 obtain⟨hl,rfl⟩:=Xn.1 hq;have:=List.findIdx_getElem (xs:=l) (p:=fun x=>decide (t≤key x)) (w:=hl);exact of_decide_eq_true this
def uk {α:Type}(key:α→Int)(x:α)(l:List α)(k:Nat)(out:List α)(f:Bool):Prop:=
 out.length≤k+1∧((f=false∧k≤jg key (key x) l∧out=l.take k)∨(f=true∧jg key (key x) l < k∧out++l.drop k=di key x l))
section
variable {α:Type}{key:α→Int}{x y:α}{l:List α}{k:Nat}{out:List α}
theorem Fp:uk key x l 0 [] false:=⟨XE _,.inl ⟨rfl,XE _,rfl⟩⟩
theorem Fq (h:uk key x l k out true)(hy:l[k]? =some y):uk key x l (k+1) (out++[y]) true:=by
 obtain⟨h1,h2|h2⟩:=h
 ·cases h2.1
 ·refine⟨by simp;omega,.inr ⟨rfl,by omega,?_⟩⟩;rw[←h2.2.2,jS hy];simp
theorem Fr (h:uk key x l k out false)(hy:l[k]? =some y)(hg:key y>key x):uk key x l (k+1) (out++[x]++[y]) true:=by
 obtain⟨h1,h2|h2⟩:=h
 ·have hk:k=jg key (key x) l:=by
   rcases XP k (jg key (key x) l)with h|h
   ·have:=Rm h hy;omega
   ·omega
  have hl:out.length≤k:=by rw[h2.2.2,Xq];omega
  refine⟨by simp;omega,.inr ⟨rfl,by omega,?_⟩⟩;unfold di;rw[←hk,h2.2.2,jS hy];simp
 ·cases h2.1
theorem Fs (h:uk key x l k out false)(hy:l[k]? =some y)(hg:key y < key x):uk key x l (k+1) (out++[y]) false:=by
 obtain⟨h1,h2|h2⟩:=h
 ·have hk:k < jg key (key x) l:=by
   rcases XP k (jg key (key x) l)with h|h
   ·exact h
   ·obtain rfl:k=jg key (key x) l:=by omega
    have:=Rn hy;omega
  have hl:out.length≤k:=by rw[h2.2.2,Xq];omega
  exact⟨by simp;omega,.inl ⟨rfl,hk,by rw[h2.2.2,ag hy]⟩⟩
 ·cases h2.1
theorem AP (h:uk key x l l.length out true):out=di key x l:=by
 obtain⟨h1,h2|h2⟩:=h
 ·cases h2.1
 ·rw[←h2.2.2,Y7,Yw]
theorem AQ (h:uk key x l l.length out false):out++[x]=di key x l:=by
 obtain⟨h1,h2|h2⟩:=h
 ·have:=QR key (key x) l;unfold di;rw[show jg key (key x) l=l.length by omega,h2.2.2];simp
 ·cases h2.1
end
theorem IP (v:Vpc)(r:Rng)(hl:v.subs.length≤9223372036854775807)(hf:∀s∈v.subs,s.faces.length≤9223372036854775807):af prog 168 [.agg (al v),.agg (bp r)] (.tup [.agg (al (cK v r).1),.v (.int .i64 (cK v r).2)]):=by
 obtain⟨R,hR⟩:∃R,R=cK v r:=⟨_,rfl⟩;rw[←hR];replace hR:=Xj hR;have a9:=gC v hl hf;clear hl hf;by_cases hc:bN v=0
 ·have hk:=aY hc;have Jo:=hk.n4;have gp:=wD v hk.n4 hk.n6 hk.n8;have hw:af prog 75 [.v (.int .i64 r.pool),.v (.int .i64 1),.v (.int .i64 65536)] (.v (.bool (cI r.pool))):=f7 _ _ _;have D1:af prog 189 [.agg (aN r.at_)] (.v (.bool (chk r.at_.at_ r.at_.len==0))):=vF r.at_;have aP:R=if lG v r≠0 then (Vpc.zero,lG v r)else ({v with ranges:=di (·.at_.at_) r v.ranges},0):=by rw[hR.out];unfold cK;rw[if_neg (by simpa using hc)]
  unfold lG at aP;replace aP:=Xj aP;rw[hc]at a9;clear hR hc;cases b1:(chk r.at_.at_ r.at_.len==0)with
  |false=>
   have hr:R=(Vpc.zero,1):=by rw[aP.out];simp at b1;simp[b1]
   rw[b1]at D1;rw[hr];replace hr:=Xj hr;clear hk;refine pj func168 ntmps168 results168 ?_;refine am ?_<;>intros;all_goals exact dg
  |true=>
  have c1:chk r.at_.at_ r.at_.len=0:=by simpa using b1
  rw[b1]at D1;cases b2:cI r.pool with
  |false=>
   have hr:R=(Vpc.zero,1):=by rw[aP.out];simp[b2]
   rw[b2]at hw;rw[hr];replace hr:=Xj hr;clear hk;refine pj func168 ntmps168 results168 ?_;refine am ?_<;>intros;all_goals exact dg
  |true=>
  rw[b2]at hw;have fM:R=if (v.ranges.any fun q=>q.at_.meets r.at_)=true then (Vpc.zero,6)else if v.ranges.length=4 then (Vpc.zero,2)else ({v with ranges:=di (·.at_.at_) r v.ranges},0):=by
   rw[aP.out,c1,b2];cases(v.ranges.any fun q=>q.at_.meets r.at_)
   ·by_cases h:v.ranges.length=4<;>simp[h]
   ·simp
  have nF:r.at_.right=true:=by simp[Pfx.right,bE,c1]
  replace fM:=Xj fM;replace nF:=Xj nF;have V6:=Xj hk.ranges;clear aP hk c1;refine pj func168 ntmps168 results168 ?_;have z1z:=Ln.mk (ls:=[]) (gp);refine am ?_<;>intros;clear gp a9 D1 hw;refine bL ae ak (fun m e h=>∃(k g:Nat) (out:List Rng) (f:Bool),k≤v.ranges.length∧uk (fun r:Rng=>r.at_.at_) r v.ranges k out f∧(v.ranges.take k).all (fun q=>!(q.at_.meets r.at_))=true∧m=v.ranges.length - k∧
   e=[(9,.d (.v (.int .i64 k))),(8,.d (.v (.bool f))),(7,.ptr 8 0),(5,.d (.v (.int .i64 0))),(4,.ptr 2 0),(3,.ptr 1 0),(2,.ptr 0 0)]∧h=[.box 55 ((al v).map .d),.box 58 ((bp r).map .d),.box 55 [.d (.v (.int .i64 0)),.d (.v (.slice none 0 0)),.d (.v (.slice none 0 0))],.gone,.gone,.row 58 3 1 (ab (v.ranges.map bp)),.gone,.row 71 4 v.subs.length (ab (v.subs.map aT)),.box 55 [.d (.v (.int .i64 v.id)),.own 9 g,.own 7 v.subs.length],.row 58 3 g (ab (out.map bp))]) _ _ _ ⟨0,0,[],false,XE _,Fp,rfl,rfl,rfl,rfl⟩ ?_ ?_
  ·refine(au (by simp) 8 55 [.d (.v (.int .i64 v.id)),.d (.v (.slice none 0 0)),.own 7 v.subs.length] 1 58 3 rfl rfl rfl).trans ?_;exact wf
  ·rintro m e h ⟨k,g,out,f,hk,fu,bP,hm,rfl,rfl⟩ C hC;replace hm:=Xj hm;replace bP:=Xj bP;have nQ:=fu.1;replace fu:=Xj fu;have yd:out.length≤5:=by omega
   have jf:(out.length+1)*24≤140737488355328:=by clear nQ hk Jo;omega
   have jm:(out.length+1+1)*24≤140737488355328:=by clear nQ hk Jo jf;omega
   by_cases hlt:k < v.ranges.length
   ·have dM:(k:Int) < (v.ranges.length:Int):=by omega
    have cR:=wi k (by omega);obtain⟨y,hy⟩:∃y,v.ranges[k]? =some y:=⟨_,Xk hlt⟩;have FM:=Xl hy;have nN:=p5 y.at_ r.at_;rw[fg]at nN;cases b3:y.at_.meets r.at_ with
    |true=>
     have hr:R=(Vpc.zero,6):=by rw[fM.out,if_pos (XU.2 ⟨y,FM,b3⟩)]
     rw[b3]at nN;rw[hr];replace hr:=Xj hr;refine am ?_<;>intros;all_goals exact dg
    |false=>
     rw[b3]at nN;have bB:y.at_.at_≠r.at_.at_:=vJ (ku (V6.out y FM)) nF.out b3;have ln:=d9 (p:=fun q:Rng=>!(q.at_.meets r.at_)) hy bP.out (by rw[b3];rfl);replace ln:=Xj ln;replace bB:=Xj bB;replace FM:=Xj FM;cases f with
     |true=>
      have Ec:=Xj (Fq fu.out hy);refine am ?_<;>intros;refine hC _ _ _ _ _ ?_ ⟨k+1,g+1,out++[y],true,hlt,Ec.out,ln.out,rfl,rfl,rfl⟩ (wf (hh:=(by simp only[al,bp,Xo,Xm,Xv,←aI];rfl)));have:=hm.out;omega
     |false=>
      cases b4:decide (y.at_.at_>r.at_.at_)with
      |true=>
       have Ec:=Xj (Fr fu.out hy (of_decide_eq_true b4));refine am ?_<;>intros;refine hC _ _ _ _ _ ?_ ⟨k+1,g+1+1,out++[r]++[y],true,hlt,Ec.out,ln.out,rfl,rfl,rfl⟩ (wf (hh:=(by simp only[al,bp,Xo,Xm,Xv,←aI,X4];rfl)));have:=hm.out;omega
      |false=>
       have Ec:=Xj (Fs fu.out hy (by have:=bB.out;have:=of_decide_eq_false b4;show y.at_.at_ < r.at_.at_;omega));refine am ?_<;>intros;refine hC _ _ _ _ _ ?_ ⟨k+1,g+1,out++[y],false,hlt,Ec.out,ln.out,rfl,rfl,rfl⟩ (wf (hh:=(by simp only[al,bp,Xo,Xm,Xv,←aI];rfl)));have:=hm.out;omega
   ·obtain rfl:k=v.ranges.length:=by omega
    have cg:(v.ranges.any fun q=>q.at_.meets r.at_)=false:=by
     have bP:=bP.out;rw[Xt]at bP;rw[Yh];intro x hx;have:=XC.1 bP x hx;simpa using this
    have j5:R=if v.ranges.length=4 then (Vpc.zero,2)else ({v with ranges:=di (·.at_.at_) r v.ranges},0):=by rw[fM.out,if_neg (by simp[cg])]
    clear fM cg;cases f with
    |true=>
     have he:=AP fu.out;have pL:out.length=v.ranges.length+1:=by rw[he,fi]
     rw[←he]at j5;replace he:=Xj he;by_cases h4:v.ranges.length=4
     ·rw[if_pos h4]at j5;have hd:decide ((out.length:Int)>4)=true:=by simp;omega
      rw[j5];replace j5:=Xj j5;replace pL:=Xj pL;refine am ?_<;>intros;all_goals exact dg
     ·rw[if_neg h4]at j5;have hd:decide ((out.length:Int)>4)=false:=by simp;omega
      rw[j5];replace j5:=Xj j5;replace pL:=Xj pL;exact bc;all_goals exact dg
    |false=>
     have he:=AQ fu.out;have pL:out.length+1=v.ranges.length+1:=by have h:=congrArg I' he;rw[fi]at h;simpa using h
     rw[←he]at j5;replace he:=Xj he;by_cases h4:v.ranges.length=4
     ·rw[if_pos h4]at j5;have hd:decide (((out.length+1:Nat):Int)>4)=true:=by simp;omega
      rw[j5];replace j5:=Xj j5;replace pL:=Xj pL;refine am ?_<;>intros;all_goals exact dg
     ·rw[if_neg h4]at j5;have hd:decide (((out.length+1:Nat):Int)>4)=false:=by simp;omega
      rw[j5];replace j5:=Xj j5;replace pL:=Xj pL;refine am ?_<;>intros;all_goals(simp only[Xo,Xm,Xv];exact dg)
 ·have h1:(bN v !=0)=true:=by simpa using hc
  have hr:R=(Vpc.zero,bN v):=by rw[hR.out];unfold cK;rw[if_pos hc]
  rw[hr];replace hr:=Xj hr;clear hR;refine pj func168 ntmps168 results168 ?_;refine am ?_<;>intros;exact dg
def P6:List (List D)→List (List D)→Prop
 |[],[]=>True
 |r::l,s::m=>pU r s∧P6 l m
 |_,_=>False
theorem wE:∀l:List (List D),P6 l l
 |[]=>trivial
 |r::l=>⟨yO r,wE l⟩
theorem GT:∀{a b c d:List (List D)},P6 a b→P6 c d→P6 (a++c) (b++d)
 |[],[],_,_,_,h=>h
 |[],_::_,_,_,h,_=>h.elim
 |_::_,[],_,_,h,_=>h.elim
 |_::_,_::_,_,_,⟨h1,h2⟩,h=>⟨h1,GT h2 h⟩
theorem GU {A B:List (List D)}{r s:List D}(h:pU r s):P6 (A++r::B) (A++s::B):=GT (wE _) ⟨h,wE _⟩
theorem L5:∀{l m:List (List D)},P6 l m→l.length=m.length∧∀(j:Nat) (a b:List D),l[j]? =some a→m[j]? =some b→pU a b
 |[],[],_=>⟨rfl,fun j a b h=>by simp at h⟩
 |[],_::_,h=>h.elim
 |_::_,[],h=>h.elim
 |r::l,s::m,⟨h1,h2⟩=>by
  obtain⟨q1,q2⟩:=L5 h2;refine⟨by simp[q1],fun j a b ha hb=>?_⟩;cases j with
  |zero=>simp at ha hb;subst ha;subst hb;exact h1
  |succ j=>exact q2 j a b (by simpa using ha) (by simpa using hb)
theorem ai.sl {sz:Nat}{l m:List (List D)}(h:P6 l m)(h1:∀r∈m,∀d∈r,d.one=true):ai (.sl sz l) (.sl sz m):=fun M w v hr=>by
 obtain⟨q1,q2⟩:=L5 h;cases hr with
 |nil _ ao cap hm=>
  have:m=[]:=X9 (by rw[←q1];rfl);subst this;exact .nil sz ao cap hm
 |sl _ rows b off cap f hM hb hc hm hr _ dC bA=>
  rw[q1];have row:∀(i:Nat) (s:List D),m[i]? =some s→∃r,l[i]? =some r∧pU r s:=fun i s hs=>by
   obtain⟨hlt,-⟩:=Xn.1 hs;exact⟨l[i]'(by omega),Xk (by omega),q2 i _ s (Xk (by omega)) hs⟩
  refine .sl sz m b off cap f hM hb (by omega) hm (fun s hs=>?_) h1 (fun i j hi hj=>dC i j (by omega) hj) (fun i j s d hs hd=>?_)
  ·obtain⟨i,hi,rfl⟩:=X0.1 hs;obtain⟨r,e1,e2⟩:=row i _ (Xk hi);rw[←(uy e2).1];exact hr r (Xl e1)
  ·obtain⟨r,e1,e2⟩:=row i s hs;obtain⟨p1,p2⟩:=uy e2;obtain⟨hlt,-⟩:=Xn.1 hd;exact p2 j _ d (Xk (by omega)) hd M w _ (bA i j r _ e1 (Xk (by omega)))
theorem L6 {v:Vpc}(h:VpcOK v):bN v=0:=by
 rw[KI];refine⟨?_,?_,h.ar,h.as_⟩
 ·simp only[kS,Zm,decide_eq_false_iff_not,Yh];refine⟨by have:=h.n4;omega,by have:=h.n6;omega,fun s hs=>?_⟩;have h8:=h.n8 s hs;simp only[ny,ZI,Zm,decide_eq_false_iff_not,Yh];refine⟨by omega,fun f hf=>?_⟩;have:=h8.2 f hf;simp[pE];omega
 ·unfold pF;simp only[Xy,XC,f5];exact⟨⟨h.id,h.rr,h.rs⟩,h.ranges,h.subs⟩
theorem IQ {v:Vpc}{r:Rng}(h:(cK v r).2=0):bN (cK v r).1=0:=by
 unfold cK at h ⊢;by_cases h1:bN v≠0
 ·rw[if_pos h1]at h;exact absurd h h1
 rw[if_neg h1]at h ⊢;have hk:=aY (by simpa using h1);by_cases h2:lG v r≠0
 ·rw[if_pos h2]at h;exact absurd h h2
 rw[if_neg h2]at h ⊢;have h3:lG v r=0:=by simpa using h2
 obtain⟨g1,g2,g3,g4⟩:cI r.pool=true∧chk r.at_.at_ r.at_.len=0∧(v.ranges.any fun q=>q.at_.meets r.at_)=false∧v.ranges.length≠4:=by
  unfold lG at h3;generalize (v.ranges.any fun q=>q.at_.meets r.at_)=M at*;generalize cI r.pool=I at*;grind
 have nF:r.at_.right=true:=by simp[Pfx.right,bE,g2]
 have cg:∀q∈v.ranges,q.at_.meets r.at_=false:=fun q hq=>by simpa using Yh.1 g3 q hq
 have bB:∀q∈v.ranges,q.at_.at_≠r.at_.at_:=fun q hq=>vJ (ku (hk.ranges q hq)) nF (cg q hq);refine L6 ⟨?_,hk.n6,hk.n8,hk.id,gB hk.rr bB,hk.rs,fun q hq=>?_,fun s hs=>?_,?_,hk.as_⟩
 ·simp only[fi];have:=hk.n4;omega
 ·rcases mr.1 hq with rfl|hq
  ·simp[eB,g1,g2]
  ·exact hk.ranges q hq
 ·have h4:=hk.subs s hs;unfold mq at h4 ⊢;simp only[Xy]at h4 ⊢;refine⟨h4.1,?_,h4.2.2⟩;have h5:=h4.2.1;unfold fF at h5 ⊢;obtain⟨q,hq,h6⟩:=XU.1 h5;exact XU.2 ⟨q,mr.2 (.inr hq),h6⟩
 ·rw[ou];have hp:((di (fun x:Rng=>x.at_.at_) r v.ranges).map (·.at_)).Perm (r.at_::v.ranges.map (·.at_)):=by
   refine((f6 (fun x:Rng=>x.at_.at_) r v.ranges).map (·.at_)).trans ?_;rw[Xo];exact List.perm_append_singleton _ _
  refine(List.Perm.pairwise_iff (R:=fun a b:Pfx=>b.meets a=false) (fun {a b} gJ=>by rw[p6];exact gJ) hp).2 ?_;rw[YC];refine⟨fun a ha=>?_,ou.1 hk.ar⟩;obtain⟨q,hq,rfl⟩:=XQ.1 ha;exact cg q hq
theorem IR (n:Net)(id:Int)(hz:uj n):af prog 78 [.agg (aK n),.v (.int .i64 id)] (.tup [.agg (aK (iJ n id).1),.v (.int .i64 (iJ n id).2)]):=by
 obtain⟨R,hR⟩:∃R,R=iJ n id:=⟨_,rfl⟩;rw[←hR];replace hR:=Xj hR;have a9:=jD n hz;by_cases hc:cN n=0
 ·have bF:=gU.1 hc;have h6:=bF.n6;have gp:=mI n bF.n6 bF.n12 bF.vp;have hw:af prog 75 [.v (.int .i64 id),.v (.int .i64 1),.v (.int .i64 65536)] (.v (.bool (cI id))):=f7 _ _ _;have db:=gP n id (by omega);rw[j0]at db
  have aP:R=if im n id≠0 then (Net.zero,im n id)else ({n with vpcs:=di (·.id) ⟨id,[],[]⟩ n.vpcs},0):=by rw[hR.out];unfold iJ;rw[if_neg (by simpa using hc)]
  unfold im at aP;rw[hc]at a9;clear hR hc;cases b1:cI id with
  |false=>
   have hr:R=(Net.zero,3):=by rw[aP];simp[b1]
   rw[b1]at hw;rw[hr];clear aP hr bF;refine pj func78 ntmps78 results78 ?_;refine am ?_<;>intros;all_goals exact dg
  |true=>
  rw[b1]at hw;cases hx:eR n id with
  |some i=>
   obtain⟨v,hv,he,hi,tj⟩:=eo hx;have hr:R=(Net.zero,6):=by rw[aP];simp[b1,tj]
   rw[hx]at db
   simp only at db
   have j4:decide ((i:Int)≥0)=true:=by simp
   rw[hr];clear aP hr bF hv he tj hx;refine pj func78 ntmps78 results78 ?_;refine am ?_<;>intros;all_goals exact dg
  |none=>
  have PB:=d5 hx;rw[hx]at db
  simp only at db
  have ur:decide ((-1:Int)≥0)=false:=rfl;by_cases Ej:n.vpcs.length=6
  ·have hr:R=(Net.zero,2):=by rw[aP];simp[b1,PB,Ej]
   have hd:decide ((n.vpcs.length:Int)≥6)=true:=by simp;omega
   rw[hr];clear aP hr bF PB hx;replace Ej:=Xj Ej;refine pj func78 ntmps78 results78 ?_;refine am ?_<;>intros;all_goals exact dg
  ·have hr:R=({n with vpcs:=di (·.id) ⟨id,[],[]⟩ n.vpcs},0):=by rw[aP];simp[b1,PB,Ej]
   have hd:decide ((n.vpcs.length:Int)≥6)=false:=by simp;omega
   have bB:=wm PB;clear aP bF PB hx;replace hr:=Xj hr;replace bB:=Xj bB;refine pj func78 ntmps78 results78 ?_;have z1z:=Ln.mk (ls:=[]) (gp);refine am ?_<;>intros;clear gp a9 hw db
   refine bL ae ak (fun m e h=>∃(k g:Nat) (out:List Vpc) (f:Bool),k≤n.vpcs.length∧uk (fun v:Vpc=>v.id) ⟨id,[],[]⟩ n.vpcs k out f∧m=n.vpcs.length - k∧
    e=[(10,.d (.v (.int .i64 k))),(9,.d (.v (.bool f))),(8,.own 6 n.vpcs.length),(7,.ptr 7 0),(5,.d (.v (.int .i64 0))),(4,.ptr 1 0),(2,.ptr 0 0),(1,.d (.v (.int .i64 id)))]∧h=[.box 28 ((aK n).map .d),.box 28 [.d (.v (.slice none 0 0)),.d (.v (.slice none 0 0))],.gone,.gone,.row 76 2 1 (ab (n.links.map bG)),.gone,.row 55 3 n.vpcs.length (ab (n.vpcs.map al)),.box 28 [.own 8 g,.own 4 1],.row 55 3 g (ab (out.map al))]) _ _ _ ⟨0,0,[],false,XE _,Fp,rfl,rfl,rfl⟩ ?_ ?_
   ·refine(au (by simp) 7 28 [.d (.v (.slice none 0 0)),.own 4 1] 0 55 3 rfl rfl rfl).trans ?_;exact wf
   ·rintro m e h ⟨k,g,out,f,hk,fu,hm,rfl,rfl⟩ C hC;replace hm:=Xj hm;have nQ:=fu.1;replace fu:=Xj fu;have yd:out.length≤7:=by omega
    have jf:(out.length+1)*56≤140737488355328:=by clear nQ hk h6;omega
    have jm:(out.length+1+1)*56≤140737488355328:=by clear nQ hk h6 jf;omega
    by_cases hlt:k < n.vpcs.length
    ·have dM:(k:Int) < (n.vpcs.length:Int):=by omega
     have cR:=wi k (by omega);obtain⟨y,hy⟩:∃y,n.vpcs[k]? =some y:=⟨_,Xk hlt⟩;have V7:=bB.out y (Xl hy);replace V7:=Xj V7;cases f with
     |true=>
      have Ec:=Xj (Fq fu.out hy);refine am ?_<;>intros;refine hC _ _ _ _ _ ?_ ⟨k+1,g+1,out++[y],true,hlt,Ec.out,rfl,rfl,rfl⟩ (wf (hh:=(by simp only[aK,al,Xo,Xm,Xv,←aI];rfl)));have:=hm.out;omega
     |false=>
      cases b4:decide (y.id>id)with
      |true=>
       have Ec:=Xj (Fr fu.out hy (of_decide_eq_true b4));refine am ?_<;>intros;refine hC _ _ _ _ _ ?_ ⟨k+1,g+1+1,out++[⟨id,[],[]⟩]++[y],true,hlt,Ec.out,rfl,rfl,rfl⟩ ((tF 8 rfl (by simp) (rows':=ab ((out++[(⟨id,[],[]⟩:Vpc)]++[y]).map al)) (by(try rw[aI]);simp only[Xo,Xm,Xv,X4,X8,Ya];exact qV dg) (kN (fun _=>rfl) _)).trans (wf));have:=hm.out;omega
      |false=>
       have Ec:=Xj (Fs fu.out hy (by have:=V7.out;have:=of_decide_eq_false b4;show y.id < id;omega));refine am ?_<;>intros;refine hC _ _ _ _ _ ?_ ⟨k+1,g+1,out++[y],false,hlt,Ec.out,rfl,rfl,rfl⟩ (wf (hh:=(by simp only[aK,al,Xo,Xm,Xv,←aI];rfl)));have:=hm.out;omega
    ·obtain rfl:k=n.vpcs.length:=by omega
     have ki:=hr.out;clear hC;cases f with
     |true=>
      have he:=AP fu.out;rw[←he]at ki;rw[ki];replace he:=Xj he;replace ki:=Xj ki;exact bc;all_goals exact dg
     |false=>
      have he:=AQ fu.out;rw[←he]at ki;rw[ki];replace he:=Xj he;replace ki:=Xj ki;refine am ?_<;>intros;all_goals
       simp only[aK,Xo,Xm,Xv];exact ai.tup ⟨ai.agg ⟨ai.sl (GU dg) (by intro r hr d hd;obtain⟨x,-,rfl⟩:=XQ.1 (by have h:r∈(out++[(⟨id,[],[]⟩:Vpc)]).map al:=(by rw[Xo];exact hr);exact h);exact XC.1 (show (al x).all D.one=true from rfl) d hd),ai.refl _,trivial⟩ rfl,ai.refl _,trivial⟩
 ·have h1:(cN n !=0)=true:=by simpa using hc
  have hr:R=(Net.zero,cN n):=by rw[hR.out];unfold iJ;rw[if_pos hc]
  rw[hr];replace hr:=Xj hr;clear hR;refine pj func78 ntmps78 results78 ?_;refine am ?_<;>intros;exact dg
theorem zB {n:Net}(bF:NetOK n){i:Nat}{v:Vpc}(hv:n.vpcs[i]? =some v){r:Rng}(hg:(cK v r).2=0):(cN {n with vpcs:=n.vpcs.set i (cK v r).1}=0↔eC {n with vpcs:=n.vpcs.set i (cK v r).1}=true)∧uj {n with vpcs:=n.vpcs.set i (cK v r).1}:=by
 have pw:=bF.vp v (Xl hv);have Ns:=CY hg;have a9:bN (cK v r).1=0:=IQ hg;obtain⟨hi,hve⟩:=Xn.1 hv;have Jr:(n.vpcs.set i (cK v r).1).map (·.id)=n.vpcs.map (·.id):=by
  rw[List.map_set,Ns.1];apply Yj;intro j;rw[Z3];split
  ·rename_i hj;subst hj;rw[XD,if_pos hi,Xz,hv];rfl
  ·rfl
 generalize (cK v r).1=w at*;have Sx:∀u∈n.vpcs.set i w,bN u=0:=fun u hu=>by
  rcases Y4 hu with hu|rfl
  ·exact bF.vp u hu
  ·exact a9
 have G5:(n.vpcs.set i w).Pairwise fun a b=>a.id < b.id:=by
  have h1:=bF.rise;rw[←Y3 (f:=fun v:Vpc=>v.id) (R:=fun a b:Int=>a < b)]at h1 ⊢;rw[Jr];exact h1
 have Nz:∀x,(fP {n with vpcs:=n.vpcs.set i w} x).isSome=(fP n x).isSome:=fun x=>by
  have key:∀l:List Vpc,(l.find? fun v=>v.id==x).isSome=decide (x∈l.map (·.id)):=fun l=>by
   induction l with
   |nil=>simp
   |cons a l ih=>
    rw[List.find?_cons];split
    ·rename_i h;simp at h;simp[h]
    ·rename_i h;rw[ih];simp at h;simp;exact fun e=>absurd e.symm h
  unfold fP;simp only;rw[key,key,Jr]
 have jc:∀l∈n.links,kZ {n with vpcs:=n.vpcs.set i w} l=true:=fun l hl=>by
  have:=bF.lk l hl;unfold kZ at this ⊢;rw[Nz,Nz];exact this
 refine⟨⟨fun h=>(gU.1 h).pe,fun h=>gU.2 ⟨by simp;exact bF.n6,bF.n12,Sx,G5,jc,bF.rk,h⟩⟩,fun u hu=>?_⟩;have:=aY (Sx u hu);exact⟨by have:=this.n6;omega,fun s hs=>by have:=(this.n8 s hs).1;omega⟩
theorem IS (n:Net)(id:Int)(r:Rng)(hz:uj n):af prog 82 [.agg (aK n),.v (.int .i64 id),.agg (bp r)] (.tup [.agg (aK (gV n id r).1),.v (.int .i64 (gV n id r).2)]):=by
 obtain⟨R,hR⟩:∃R,R=gV n id r:=⟨_,rfl⟩;rw[←hR];replace hR:=Xj hR;have a9:=jD n hz;by_cases hc:cN n=0
 ·have bF:=gU.1 hc;have h6:=bF.n6;have gp:=mI n bF.n6 bF.n12 bF.vp;have db:=gP n id (by omega);rw[j0]at db
  rw[hc]at a9;have ur:decide ((-1:Int) < 0)=true:=rfl;cases hx:eR n id with
  |none=>
   rw[hx]at db
   simp only at db
   have hr:R=(Net.zero,5):=by rw[hR.out];unfold gV;rw[if_neg (by simpa using hc),hx]
   rw[hr];clear hr hR bF hx hc;refine pj func82 ntmps82 results82 ?_;refine am ?_<;>intros;all_goals exact dg
  |some i=>
   obtain⟨v,hv,he,hi,tj⟩:=eo hx;rw[hx]at db
   simp only at db
   have Sy:=hz v (Xl hv);have Uz:=IP v r Sy.1 Sy.2;have j4:decide ((i:Int) < 0)=false:=by simp
   have Ny:(0:Int)≤(i:Int):=by omega
   have hiL:(i:Int) < (n.vpcs.length:Int):=by omega
   by_cases hg:(cK v r).2=0
   ·have V8:=zB bF hv hg;have V9:=jD _ V8.2;have aP:R=if eC {n with vpcs:=n.vpcs.set i (cK v r).1}=true then ({n with vpcs:=n.vpcs.set i (cK v r).1},0)else (Net.zero,9):=by
     rw[hR.out];unfold gV;rw[if_neg (by simpa using hc),hx];simp only[hv];rw[if_neg (by simpa using hg)]
    rw[hg]at Uz;have PQ:=V8.1;clear hR bF hx hc hg tj V8 hz;replace he:=Xj he;generalize (cK v r).1=w at*;have bZ:(ab (n.vpcs.map al)).set i [.d (.v (.int .i64 w.id)),.d (.sl 3 (w.ranges.map bp)),.d (.sl 4 (w.subs.map aT))]=ab ((n.vpcs.set i w).map al):=bO al n.vpcs i w;by_cases hq:cN {n with vpcs:=n.vpcs.set i w}=0
    ·have hr:R=({n with vpcs:=n.vpcs.set i w},0):=by rw[aP,if_pos (PQ.1 hq)]
     rw[hq]at V9;rw[hr];clear hr aP hq PQ;refine pj func82 ntmps82 results82 ?_;have z1z:=Ln.mk (ls:=[]) (gp);exact bc;all_goals exact dg
    ·have hr:R=(Net.zero,9):=by rw[aP,if_neg (fun h=>hq (PQ.2 h))]
     have hqb:(cN {n with vpcs:=n.vpcs.set i w} !=0)=true:=by simpa using hq
     rw[hr];clear hr aP hq PQ;generalize cN {n with vpcs:=n.vpcs.set i w}=Q at*;refine pj func82 ntmps82 results82 ?_;have z1z:=Ln.mk (ls:=[]) (gp);refine am ?_<;>intros;all_goals exact dg
   ·have hr:R=(Net.zero,(cK v r).2):=by
     rw[hR.out];unfold gV;rw[if_neg (by simpa using hc),hx];simp only[hv];rw[if_pos hg]
    have PL:((cK v r).2 !=0)=true:=by simpa using hg
    rw[hr];clear hr hR bF hx hc hg tj hz;replace he:=Xj he;generalize (cK v r).1=w at*;generalize (cK v r).2=E at*;refine pj func82 ntmps82 results82 ?_;refine am ?_<;>intros;all_goals exact dg
 ·have h1:(cN n !=0)=true:=by simpa using hc
  have hr:R=(Net.zero,cN n):=by rw[hR.out];unfold gV;rw[if_pos hc]
  rw[hr];replace hr:=Xj hr;clear hR;refine pj func82 ntmps82 results82 ?_;refine am ?_<;>intros;exact dg
def AR {α:Type}(key:α→Int)(x:α)(l:List α)(q:Nat)(out:List α):Prop:=q≤l.length∧out=l.take q++x::l.drop q∧∀y∈l.drop q,key x < key y
section
variable {α:Type}{key:α→Int}{x y:α}{l out:List α}{q:Nat}
theorem L7:AR key x l l.length (l++[x]):=⟨XB _,by simp,by simp⟩
theorem L8 (h:AR key x l q out):out[q]? =some x:=by
 rw[h.2.1,XH (by rw[Xq];omega),Xq,show q - min q l.length=0 by have:=h.1;omega];rfl
theorem L9 (h:AR key x l q out)(h0:0 < q)(hy:l[q - 1]? =some y):out[q - 1]? =some y:=by
 rw[h.2.1,X2 (by rw[Xq];have:=h.1;omega),XS (by omega),hy]
theorem Ma (h:AR key x l q out)(h0:0 < q)(hy:l[q - 1]? =some y)(hg:key y>key x):AR key x l (q - 1) ((out.set (q - 1) x).set q y):=by
 obtain⟨h1,h2,h3⟩:=h;obtain⟨hlt,he⟩:=Xn.1 hy;obtain⟨n,rfl⟩:∃n,q=n+1:=⟨q - 1,by omega⟩;simp only[Nat.add_sub_cancel]at hy hlt he ⊢;have hd:=jS hy;have ht:=ag hy;refine⟨by omega,?_,fun z hz=>?_⟩
 ·rw[h2,ht,hd];have hl:(l.take n).length=n:=by rw[Xq];omega
  rw[X4,Yu _ _ (by omega),hl,YG,Yu _ _ (by omega),hl];simp
 ·rw[hd]at hz;rcases X7.1 hz with rfl|hz
  ·exact hg
  ·exact h3 z hz
theorem zC (h:AR key x l q out)(hs:l.Pairwise fun a b=>key a < key b)(hl:∀y,0 < q→l[q - 1]? =some y→key y < key x):out=di key x l:=by
 obtain⟨h1,h2,h3⟩:=h;have:jg key (key x) l=q:=by
  refine pZ h1 (fun j hj UW=>?_) (fun j hj WG=>?_)
  ·have e1:=hl l[q - 1] (by omega) (Xk (by omega));rcases XP j (q - 1)with h|h
   ·have:=XF.1 hs j (q - 1) hj (by omega) h;omega
   ·obtain rfl:j=q - 1:=by omega
    exact e1
  ·have:=h3 l[j] (X0.2 ⟨j - q,by rw[XJ];omega,by rw[List.getElem_drop];congr 1;omega⟩);omega
 unfold di;rw[this,h2]
end
theorem sW {α:Type}{f:α→Bool}{l:List α}{k:Nat}{x:α}(h:l[k]? =some x):(l.take (k+1)).filter f=if f x then (l.take k).filter f++[x]else (l.take k).filter f:=by
 rw[ag h,YW];cases hx:f x<;>simp[hx]
def wF (n:Net)(a b:Int):Bool:=n.vpcs.any fun v=>(aW n v.id==aW n a)&&n.vpcs.any fun w=>(aW n w.id==aW n b)&&((v.id !=w.id)&&dH v w)
theorem GV {n:Net}{a b:Int}{v w:Vpc}(hv:v∈n.vpcs)(hw:w∈n.vpcs)(h1:aW n v.id=aW n a)(h2:aW n w.id=aW n b)(h3:v.id≠w.id)(h4:dH v w=true):wF n a b=true:=
 XU.2 ⟨v,hv,by simp only[h1,beq_self_eq_true,Yr];exact XU.2 ⟨w,hw,by simp[h2,h3,h4]⟩⟩
theorem GW {n:Net}{a b:Int}(h:wF n a b=false){v w:Vpc}(hv:v∈n.vpcs)(hw:w∈n.vpcs)(h1:aW n v.id=aW n a)(h2:aW n w.id=aW n b)(h3:v.id≠w.id):dH v w=false:=by
 cases hb:dH v w with
 |false=>rfl
 |true=>rw[GV hv hw h1 h2 h3 hb]at h;cases h
theorem IT {n:Net}{l:Lnk}{x y:Int}{links:List Lnk}(hp:links.Perm (n.links++[l])):aW {n with links:=links} x=aW {n with links:=links} y↔fQ (aW n) l x=fQ (aW n) l y:=by
 rw[wB,wB,←Fn];exact Fm fun m=>hp.mem_iff
theorem zD {n:Net}(a b:Int){x y:Int}:fQ (aW n) (fG a b) x=fQ (aW n) (fG a b) y↔aW n x=aW n y∨(aW n x=aW n a∧aW n y=aW n b)∨(aW n x=aW n b∧aW n y=aW n a):=by
 rw[IL];rcases sP a b with⟨e,-⟩|⟨e,-⟩
 ·rw[e]
 ·rw[e];constructor
  ·rintro (h|h|h)
   ·exact .inl h
   ·exact .inr (.inr h)
   ·exact .inr (.inl h)
  ·rintro (h|h|h)
   ·exact .inl h
   ·exact .inr (.inr h)
   ·exact .inr (.inl h)
theorem Mb {n:Net}{i j:Nat}{v w:Vpc}(hv:n.vpcs[i]? =some v)(hw:n.vpcs[j]? =some w)(h:v.id≠w.id):i≠j:=fun e=>by
 subst e;rw[hv]at hw;cases hw;exact h rfl
theorem Ft {n:Net}(bF:NetOK n)(a b:Int):eC {n with links:=di fJ (fG a b) n.links}=!wF n a b:=by
 have Xc:=fun x y=>IT (n:=n) (l:=fG a b) (x:=x) (y:=y) (f6 fJ (fG a b) n.links);cases hw:wF n a b with
 |true=>
  unfold wF at hw;obtain⟨v,hv,h⟩:=XU.1 hw;rw[Xy,beq_iff_eq]at h;obtain⟨h1,h⟩:=h;obtain⟨w,hw,h⟩:=XU.1 h;simp only[Xy,beq_iff_eq,bne_iff_ne,ne_eq]at h;obtain⟨h2,h3,h4⟩:=h;obtain⟨i,hi⟩:=Ze.1 hv;obtain⟨j,hj⟩:=Ze.1 hw;refine sV (n:={n with links:=di fJ (fG a b) n.links}) (Mb hi hj h3) hi hj ?_;unfold jT;rw[h4,YA,beq_iff_eq,Xc,zD];exact .inr (.inl ⟨h1,h2⟩)
 |false=>
  refine p8 (n:={n with links:=di fJ (fG a b) n.links}) fun i v w hv A9=>?_;have bB:=GS bF.rise hv A9;have Bl:=Xl hv;have cl:=Yf A9;unfold jT;cases hc:dH v w with
  |false=>rw[Bool.and_false]
  |true=>
   rw[YA,beq_eq_false_iff_ne,ne_eq,Xc,zD];rintro (h|h|h)
   ·obtain⟨j,hj⟩:=Ze.1 cl;have:=sV (n:=n) (Mb (n:=n) hj hv bB).symm hv hj (by unfold jT;rw[hc,h];simp);rw[bF.pe]at this;cases this
   ·have:=GW hw Bl cl h.1 h.2 bB.symm;rw[hc]at this;cases this
   ·have:=GW hw cl Bl h.2 h.1 bB;rw[tW,hc]at this;cases this
theorem O6 {y l:Lnk}(h1:1≤y.b∧y.b≤65536)(h2:1≤l.b∧l.b≤65536):fJ y < fJ l↔y.a < l.a∨(y.a=l.a∧y.b < l.b):=by
 unfold fJ;constructor<;>intro h<;>omega
theorem wG (n:Net)(a b:Int):jK n a b=decide (fG a b∈n.links):=by
 unfold jK;rw[Yi,XU];simp
theorem AS {l:List Lnk}(hn:l.Nodup){x:Lnk}{i:Nat}(h:l.findIdx? (fun y=>decide (x=y))=some i):l.filter (fun y=>!decide (y=x))=l.eraseIdx i:=by
 obtain⟨hi,he,-⟩:=XI.1 h;have he:x=l[i]:=by simpa using he
 subst he;have e1:l=l.take i++l[i]::l.drop (i+1):=by rw[←YQ hi,YX]
 have hd:∀j (hj:j < l.length),j≠i→l[j]≠l[i]:=fun j hj j6 he=>by
  rcases H' j6 with h|h
  ·exact XF.1 hn j i hj hi h he
  ·exact XF.1 hn i j hi hj h he.symm
 have key:∀(A B:List Lnk) (x:Lnk),(∀y∈A,y≠x)→(∀y∈B,y≠x)→(A++x::B).filter (fun y=>!decide (y=x))=A++B:=fun A B x hA hB=>by
  rw[YW,Zu];simp only[decide_true,Z0,YB,if_false];rw[Y0.2 (fun y hy=>by simpa using hA y hy),Y0.2 (fun y hy=>by simpa using hB y hy)]
 refine(congrArg (List.filter _) e1).trans ((key _ _ _ (fun y hy=>?_) fun y hy=>?_).trans (YK l i).symm)
 ·obtain⟨j,hj,rfl⟩:=X0.1 hy;rw[ZA];rw[Xq]at hj;exact hd j (by omega) (by omega)
 ·obtain⟨j,hj,rfl⟩:=X0.1 hy;rw[List.getElem_drop];rw[XJ]at hj;exact hd (i+1+j) (by omega) (by omega)
theorem Dy {n:Net}(bF:NetOK n):n.links.Nodup:=bF.lsort.imp fun h e=>by rw[e]at h;omega
theorem IU (n:Net)(a b:Int)(hz:uj n):af prog 80 [.agg (aK n),.v (.int .i64 a),.v (.int .i64 b)] (.tup [.agg (aK (iI n a b).1),.v (.int .i64 (iI n a b).2)]):=by
 obtain⟨R,hR⟩:∃R,R=iI n a b:=⟨_,rfl⟩;rw[←hR];replace hR:=Xj hR;have a9:=jD n hz;by_cases hc:cN n=0
 ·have bF:=gU.1 hc;have MS:=bF.n12;have gp:=mI n bF.n6 bF.n12 bF.vp;have NA:=sU n a b (by omega);rw[wG]at NA;rw[hc]at a9;have fU:fG a b∈n.links↔(n.links.findIdx? (fun l=>decide (fG a b=l))).isSome=true:=by
   rw[List.findIdx?_isSome,XU];simp
  cases hf:n.links.findIdx? (fun l=>decide (fG a b=l))with
  |none=>
   have JE:fG a b∉n.links:=fun h=>by rw[fU,hf]at h;cases h
   have hr:R=(Net.zero,5):=by rw[hR.out];unfold iI;rw[if_neg (by simpa using hc),hf]
   rw[decide_eq_false JE]at NA;rw[hr];clear hr hR hf hc bF JE fU;refine pj func80 ntmps80 results80 ?_;refine am ?_<;>intros;all_goals exact dg
  |some i=>
   have FM:fG a b∈n.links:=by rw[fU,hf];rfl
   have hr:R=({n with links:=n.links.filter fun y=>!decide (y=fG a b)},0):=by rw[hR.out];unfold iI;rw[if_neg (by simpa using hc),hf,AS (Dy bF) hf]
   rw[decide_eq_true FM]at NA;replace hr:=Xj hr;clear hR hf hc bF FM fU;refine pj func80 ntmps80 results80 ?_;have z1z:=Ln.mk (ls:=[]) (gp);refine am ?_<;>intros;clear gp a9 NA;refine bL ae ak (fun m e h=>∃(k g:Nat),k≤n.links.length∧m=n.links.length - k∧
    e=[(10,.d (.v (.int .i64 k))),(9,.ptr 7 0),(7,.d (.v (.int .i64 0))),(6,.ptr 1 0),(3,.ptr 0 0),(2,.d (.v (.int .i64 b))),(1,.d (.v (.int .i64 a)))]∧h=[.box 28 ((aK n).map .d),.box 28 [.d (.v (.slice none 0 0)),.d (.v (.slice none 0 0))],.gone,.gone,.row 76 2 1 (ab (n.links.map bG)),.gone,.row 55 3 n.vpcs.length (ab (n.vpcs.map al)),.box 28 [.own 6 n.vpcs.length,.own 8 g],.row 76 2 g (ab (((n.links.take k).filter fun y=>!decide (y=fG a b)).map bG))]) _ _ _ ⟨0,0,XE _,rfl,rfl,rfl⟩ ?_ ?_
   ·refine(au (by simp) 7 28 [.own 6 n.vpcs.length,.d (.v (.slice none 0 0))] 1 76 2 rfl rfl rfl).trans ?_;exact wf
   ·rintro m e h ⟨k,g,hk,hm,rfl,rfl⟩ C hC;replace hm:=Xj hm;by_cases hlt:k < n.links.length
    ·have dM:(k:Int) < (n.links.length:Int):=by omega
     have cR:=wi k (by omega);obtain⟨y,hy⟩:∃y,n.links[k]? =some y:=⟨_,Xk hlt⟩;have he:([y.a,y.b] !=[if b < a then b else a,if a < b then b else a])=!decide (y=fG a b):=congrArg (fun t=>!t) (wj y (fG a b));have gY:((n.links.take k).filter fun y=>!decide (y=fG a b)).length≤k:=by
      have:=Za (fun y=>!decide (y=fG a b)) (n.links.take k);rw[Xq]at this;omega
     have jf:((n.links.take k).filter fun y=>!decide (y=fG a b)).length+1≤100:=by omega
     have dS:=sW (f:=fun y=>!decide (y=fG a b)) hy;replace dS:=Xj dS;replace gY:=Xj gY;generalize (n.links.take k).filter (fun y=>!decide (y=fG a b))=L at*;cases b1:decide (y=fG a b)with
     |true=>
      rw[b1]at dS he;refine am ?_<;>intros;refine hC _ _ _ _ _ ?_ ⟨k+1,g,hlt,rfl,rfl,rfl⟩ (wf (hh:=(by rw[dS.out];simp only[aK,Z0,YB,if_false];rfl)));have:=hm.out;omega
     |false=>
      rw[b1]at dS he;refine am ?_<;>intros;refine hC _ _ _ _ _ ?_ ⟨k+1,g+1,hlt,rfl,rfl,rfl⟩ (wf (hh:=(by rw[dS.out];simp only[aK,Bool.not_false,if_true,Xo,Xm,Xv,←aI];rfl)));have:=hm.out;omega
    ·obtain rfl:k=n.links.length:=by omega
     (try rw[Xt])
     have ki:=hr.out;rw[ki];replace ki:=Xj ki;clear hC;exact bc;all_goals exact dg
 ·have h1:(cN n !=0)=true:=by simpa using hc
  have hr:R=(Net.zero,cN n):=by rw[hR.out];unfold iI;rw[if_pos hc]
  rw[hr];replace hr:=Xj hr;clear hR;refine pj func80 ntmps80 results80 ?_;refine am ?_<;>intros;exact dg
theorem IV (n:Net)(a b:Int)(hz:uj n):af prog 79 [.agg (aK n),.v (.int .i64 a),.v (.int .i64 b)] (.tup [.agg (aK (jk n a b).1),.v (.int .i64 (jk n a b).2)]):=by
 obtain⟨R,hR⟩:∃R,R=jk n a b:=⟨_,rfl⟩;rw[←hR];replace hR:=Xj hR;have a9:=jD n hz;by_cases hc:cN n=0
 ·have bF:=gU.1 hc;have h6:=bF.n6;have MS:=bF.n12;have r6:R=if dW n a b≠0 then (Net.zero,dW n a b)else ({n with links:=di fJ (fG a b) n.links},0):=by rw[hR.out];unfold jk;rw[if_neg (by simpa using hc)]
  rw[hc]at a9;by_cases gJ:a=b
  ·have tm:(a==b)=true:=by simpa using gJ
   have hr:R=(Net.zero,3):=by rw[r6,show dW n a b=3 by unfold dW;rw[if_pos gJ]];rfl
   rw[hr];clear hr hR r6 bF hc;replace gJ:=Xj gJ;refine pj func79 ntmps79 results79 ?_;refine am ?_<;>intros;all_goals exact dg
  have tm:(a==b)=false:=by simpa using gJ
  have j8:=gP n a (by omega);have lz:=gP n b (by omega);rw[j0]at j8 lz;have ur:decide ((-1:Int) < 0)=true:=rfl;cases Bj:eR n a with
  |none=>
   rw[Bj]at j8;simp only at j8;have hr:R=(Net.zero,5):=by rw[r6,show dW n a b=5 by unfold dW;rw[if_neg gJ,d5 Bj];simp];rfl
   rw[hr];clear hr hR r6 bF hc Bj lz;replace gJ:=Xj gJ;refine pj func79 ntmps79 results79 ?_;refine am ?_<;>intros;all_goals exact dg
  |some ia=>
  rw[Bj]at j8;simp only at j8;obtain⟨va,PR,PM,PN,uv⟩:=eo Bj;have a0g:decide ((ia:Int) < 0)=false:=by simp
  cases nO:eR n b with
  |none=>
   rw[nO]at lz;simp only at lz;have hr:R=(Net.zero,5):=by rw[r6,show dW n a b=5 by unfold dW;rw[if_neg gJ,d5 nO];simp];rfl
   rw[hr];clear hr hR r6 bF hc Bj nO PR PM uv;replace gJ:=Xj gJ;refine pj func79 ntmps79 results79 ?_;refine am ?_<;>intros;all_goals exact dg
  |some ib=>
  rw[nO]at lz;simp only at lz;obtain⟨vb,MD,R6,Ub,yo⟩:=eo nO;have a0h:decide ((ib:Int) < 0)=false:=by simp
  have NA:=sU n a b (by omega);rw[wG]at NA;have D2:=Ft bF a b;have aP:R=if fG a b∈n.links then (Net.zero,6)else if wF n a b=true then (Net.zero,9)else if n.links.length+1>12 then (Net.zero,2)else ({n with links:=di fJ (fG a b) n.links},0):=by
   rw[r6];unfold dW;rw[if_neg gJ,uv,yo,D2];simp only[reduceCtorEq,or_self,if_false];split
   ·rfl
   ·cases wF n a b
    ·simp only[Bool.not_false,Bool.true_eq_false,if_false];split<;>rfl
    ·rfl
  clear hR r6 D2;by_cases dE:fG a b∈n.links
  ·have hr:R=(Net.zero,6):=by rw[aP,if_pos dE]
   rw[decide_eq_true dE]at NA;rw[hr];clear hr aP bF hc Bj nO PR PM uv MD R6 yo dE;replace gJ:=Xj gJ;refine pj func79 ntmps79 results79 ?_;refine am ?_<;>intros;all_goals exact dg
  rw[if_neg dE]at aP;rw[decide_eq_false dE]at NA;have Sg:∀l∈n.links,l.a∈n.vpcs.map (·.id)∧l.b∈n.vpcs.map (·.id)∧l.a < l.b:=fun l hl=>by
   have:=bF.lk l hl;unfold kZ at this;simp only[Xy,decide_eq_true_eq]at this;exact⟨fR this.1,fR this.2.1,this.2.2⟩
  have Sz:=wC n a ia Bj h6 MS bF.rise Sg;have PL:=wC n b ib nO h6 MS bF.rise Sg;have Wa:=AO n a;have Wb:=AO n b;have Nf:∀(k:Nat) (x:Int),(oE n a)[k]? =some x→∃j w,n.vpcs[j]? =some w∧w.id=x∧eR n x=some j∧aW n x=aW n a:=fun k x h=>Fo bF.rise h;have Ng:∀(k:Nat) (x:Int),(oE n b)[k]? =some x→∃j w,n.vpcs[j]? =some w∧w.id=x∧eR n x=some j∧aW n x=aW n b:=fun k x h=>Fo bF.rise h;have Nh:∀w∈n.vpcs,aW n w.id=aW n a→w.id∈oE n a:=fun w hw h=>AN hw h;have Ni:∀w∈n.vpcs,aW n w.id=aW n b→w.id∈oE n b:=fun w hw h=>AN hw h;have gp:=mI n bF.n6 bF.n12 bF.vp;have PS:∀(i j:Nat) (u v:Vpc),n.vpcs[i]? =some u→n.vpcs[j]? =some v→u.id=v.id→u=v:=fun i j u v hu hv h=>by
   have e1:=oK bF.rise hu;have e2:=oK bF.rise hv;rw[h,e2]at e1;cases e1;rw[hu]at hv;exact XX.inj hv
  have jn:∀l∈n.links,1≤l.b∧l.b≤65536:=fun l hl=>bF.bd (bF.ids l hl).2;have Ea:1≤(fG a b).b∧(fG a b).b≤65536:=by
   have h1:=bF.bd (fR (n:=n) (x:=a) (by rw[uv];rfl));have h2:=bF.bd (fR (n:=n) (x:=b) (by rw[yo];rfl));rcases sP a b with⟨e,-⟩|⟨e,-⟩
   ·rw[e];exact h2
   ·rw[e];exact h1
  have uw:=bF.lsort;have bB:∀y∈n.links,fJ y≠fJ (fG a b):=fun y hy e=>dE (by rw[←C5 (jn y hy) Ea e];exact hy);have UF:∀(j:Nat) (w:Vpc),n.vpcs[j]? =some w→w.ranges.length≤4:=fun j w hw=>(aY (bF.vp w (Xl hw))).n4;have JE:∀(i j:Nat) (v w:Vpc),n.vpcs[i]? =some v→n.vpcs[j]? =some w→aW n v.id=aW n a→aW n w.id=aW n b→v.id≠w.id→dH v w=true→wF n a b=true:=fun i j v w hv hw h1 h2 h3 h4=>GV (Xl hv) (Xl hw) h1 h2 h3 h4;clear bF hc Bj nO PR PM uv MD R6 yo dE Sg;replace aP:=Xj aP;replace Nf:=Xj Nf;replace Ng:=Xj Ng;replace Nh:=Xj Nh;replace Ni:=Xj Ni;replace jn:=Xj jn;replace Ea:=Xj Ea;replace uw:=Xj uw;replace bB:=Xj bB;replace UF:=Xj UF;replace JE:=Xj JE;replace PS:=Xj PS;replace gJ:=Xj gJ;obtain⟨GA,Xd⟩:∃GA,GA=oE n a:=⟨_,rfl⟩;obtain⟨GB,Xe⟩:∃GB,GB=oE n b:=⟨_,rfl⟩;rw[←Xd]at Sz Wa Nf Nh;rw[←Xe]at PL Wb Ng Ni;clear Xd Xe;refine pj func79 ntmps79 results79 ?_;refine am ?_<;>intros;clear a9 j8 lz NA Sz PL;refine bo ae ak GA (fun i=>∀v∈n.vpcs,∀w∈n.vpcs,v.id∈GA.take i→w.id∈GB→v.id≠w.id→dH v w=false) (fun i=>[(11,.d (.v (.int .i64 i))),(10,.d (.sl 1 (GB.map cy))),(9,.d (.sl 1 (GA.map cy))),(7,.d (.v (.int .i64 0))),(6,.ptr 1 0),(3,.ptr 0 0),(2,.d (.v (.int .i64 b))),(1,.d (.v (.int .i64 a)))]) (fun _=>[.box 28 ((aK n).map .d),.box 28 [.d (.v (.slice none 0 0)),.d (.v (.slice none 0 0))]]) (by simp) (wf) ?_ ?_
  ·intro i x hx hi hI C hC;have Ny:(i:Int) < (GA.length:Int):=by omega
   have uJ:=wi i (by omega);obtain⟨p,v,hv,FV,Wc,Se⟩:=Nf.out i x hx;have dS:(∀w∈n.vpcs,w.id∈GB→v.id≠w.id→dH v w=false)→∀v∈n.vpcs,∀w∈n.vpcs,v.id∈GA.take (i+1)→w.id∈GB→v.id≠w.id→dH v w=false:=fun h u hu w hw hug Xf bB=>by
    rw[ag hx]at hug;rcases X3.1 hug with hug|hug
    ·exact hI u hu w hw hug Xf bB
    ·have e1:u.id=x:=Yc.1 hug;obtain⟨q,hq⟩:=Ze.1 hu;have e3:u=v:=PS.out q p u v hq hv (e1.trans FV.symm);rw[e3]at bB ⊢;exact h w hw Xf bB
   replace hI:=Xj hI;replace dS:=Xj dS;refine am ?_<;>intros;refine bo ae ak GB (fun j=>∀w∈n.vpcs,w.id∈GB.take j→v.id≠w.id→dH v w=false) (fun j=>[(12,.d (.v (.int .i64 j))),(11,.d (.v (.int .i64 i))),(10,.d (.sl 1 (GB.map cy))),(9,.d (.sl 1 (GA.map cy))),(7,.d (.v (.int .i64 0))),(6,.ptr 1 0),(3,.ptr 0 0),(2,.d (.v (.int .i64 b))),(1,.d (.v (.int .i64 a)))]) (fun _=>[.box 28 ((aK n).map .d),.box 28 [.d (.v (.slice none 0 0)),.d (.v (.slice none 0 0))]]) (by simp) (wf) ?_ ?_
   ·intro j y hy hj hJ C2 jI;have ip:(j:Int) < (GB.length:Int):=by omega
    have kj:=wi j (by omega);obtain⟨q,w,hw,NC,Wd,We⟩:=Ng.out j y hy;have Bm:(x≠y→dH v w=false)→∀w∈n.vpcs,w.id∈GB.take (j+1)→v.id≠w.id→dH v w=false:=fun h u hu hug bB=>by
     rw[ag hy]at hug;rcases X3.1 hug with hug|hug
     ·exact hJ u hu hug bB
     ·have e1:u.id=y:=Yc.1 hug;obtain⟨r,hr⟩:=Ze.1 hu;have e3:u=w:=PS.out r q u w hr hw (e1.trans NC.symm);rw[e3]at bB ⊢;exact h (by rw[←FV,←NC];exact bB)
    by_cases Hh:x=y
    ·have e1:(x !=y)=false:=by simpa using Hh
     have hn:=Bm fun h=>absurd Hh h;clear Bm hJ;replace hn:=Xj hn;replace Hh:=Xj Hh;replace FV:=Xj FV;replace NC:=Xj NC;refine am ?_<;>intros;exact jI _ _ hn.out (wf)
    ·have e1:(x !=y)=true:=by simpa using Hh
     have Ui:=gP n x (by omega);have Uj:=gP n y (by omega);rw[j0,Wc]at Ui;rw[j0,Wd]at Uj;simp only at Ui Uj;have r5:=UF.out p v hv;have ki:=UF.out q w hw;have fV:=Ds v w (by omega) (by omega);have Xg:(0:Int)≤(p:Int):=by omega
     have Sf:(0:Int)≤(q:Int):=by omega
     have iP:(p:Int) < (n.vpcs.length:Int):=by have:=(Xn.1 hv).1;omega
     have s6:(q:Int) < (n.vpcs.length:Int):=by have:=(Xn.1 hw).1;omega
     clear r5 ki;replace hJ:=Xj hJ;replace Wc:=Xj Wc;replace Wd:=Xj Wd;cases hb:dH v w with
     |true=>
      have hr:R=(Net.zero,9):=by
       rw[aP.out,if_pos (JE.out p q v w hv hw (by rw[FV];exact Se) (by rw[NC];exact We) (by rw[FV,NC];exact Hh) hb)]
      rw[hb]at fV;rw[hr];clear hr Bm hb Se We;replace Hh:=Xj Hh;replace FV:=Xj FV;replace NC:=Xj NC;refine am ?_<;>intros;all_goals exact dg
     |false=>
      have hn:=Bm fun _=>hb;rw[hb]at fV;clear Bm hb Se We;replace hn:=Xj hn;replace Hh:=Xj Hh;replace FV:=Xj FV;replace NC:=Xj NC;refine am ?_<;>intros;exact jI _ _ hn.out (wf)
   ·intro hJ C2;rw[Xt]at hJ;have hn:=dS.out hJ;replace hJ:=Xj hJ;replace hn:=Xj hn;replace FV:=Xj FV;refine am ?_<;>intros;exact hC _ _ hn.out (wf)
  ·intro hI C;rw[Xt]at hI;have Uk:wF n a b=false:=by
    cases hw:wF n a b with
    |false=>rfl
    |true=>
     unfold wF at hw;obtain⟨v,hv,h⟩:=XU.1 hw;rw[Xy,beq_iff_eq]at h;obtain⟨h1,h⟩:=h;obtain⟨w,hw,h⟩:=XU.1 h;simp only[Xy,beq_iff_eq,bne_iff_ne,ne_eq]at h;obtain⟨h2,h3,h4⟩:=h;rw[hI v hv w hw (Nh.out v hv h1) (Ni.out w hw h2) h3]at h4;cases h4
   have fM:R=if n.links.length+1>12 then (Net.zero,2)else ({n with links:=di fJ (fG a b) n.links},0):=by rw[aP.out,Uk,if_neg (by simp)]
   clear hI Uk Nh Ni Nf Ng JE;by_cases PT:n.links.length=12
   ·have hd:decide ((n.links.length:Int)≥12)=true:=by simp;omega
    have hr:R=(Net.zero,2):=by rw[fM,if_pos (by omega)]
    rw[hr];clear hr fM;replace PT:=Xj PT;refine am ?_<;>intros;all_goals exact dg
   ·have hd:decide ((n.links.length:Int)≥12)=false:=by simp;omega
    have hr:R=({n with links:=di fJ (fG a b) n.links},0):=by rw[fM,if_neg (by omega)]
    have jf:n.links.length+1≤100:=by omega
    have Xh:IntKind.i64.wrap (((n.links.length+1:Nat):Int) - 1)=(n.links.length:Int):=by rw[IntKind.wrap_i64];omega
    clear fM;replace hr:=Xj hr;replace PT:=Xj PT;have nu:fG a b=⟨if b < a then b else a,if a < b then b else a⟩:=rfl;have z1z:=Ln.mk (ls:=[]) (gp);refine am ?_<;>intros;clear gp;refine bL ae ak (fun m e h=>∃(q:Nat) (out:List Lnk),AR fJ (fG a b) n.links q out∧out.length=n.links.length+1∧m=q∧e=[(14,.d (.v (.int .i64 q))),(13,.ptr 7 0),(7,.d (.v (.int .i64 0))),(6,.ptr 1 0)]∧
     h=[.box 28 ((aK n).map .d),.box 28 [.d (.v (.slice none 0 0)),.d (.v (.slice none 0 0))],.gone,.gone,.row 76 2 2 (ab (out.map bG)),.gone,.row 55 3 n.vpcs.length (ab (n.vpcs.map al)),.box 28 [.own 6 n.vpcs.length,.own 4 2]]) _ _ _ ⟨n.links.length,n.links++[fG a b],L7,by simp,rfl,rfl,rfl⟩ (wf (hh:=(by rw[Xo];rfl)) (hb:=cL) (hbh:=cL)) ?_
    rintro m e h ⟨q,out,ua,nQ,hm,rfl,rfl⟩ C2 jI;clear nu;generalize fG a b=LK at*;have s6:=ua.1;have hx:=L8 ua;replace ua:=Xj ua;replace hm:=Xj hm;by_cases h0:0 < q
    ·have Sf:decide ((q:Int)>0)=true:=by simp;omega
     obtain⟨y,hy⟩:∃y,n.links[q - 1]? =some y:=⟨_,Xk (by omega)⟩;have Nv:=L9 ua.out h0 hy;have A9:IntKind.i64.wrap ((q:Int) - 1)=((q - 1:Nat):Int):=by rw[IntKind.wrap_i64];omega
     have pu:q < out.length:=by omega
     have Xi:q - 1 < out.length:=by omega
     have uI:=O6 (jn.out y (Xl hy)) Ea.out;have Hg:=bB.out y (Xl hy);replace nQ:=Xj nQ;replace h0:=Xj h0;replace hy:=Xj hy;by_cases hlt:fJ y < fJ LK
     ·have he:=zC ua.out uw.out (fun z _ hz=>by
       rw[hy.out]at hz;rw[←XX.inj hz];exact hlt)
      have ki:=hr.out;rw[←he]at ki;rw[ki];have fq:=uI.1 hlt;clear uI Hg hlt;replace ki:=Xj ki;replace he:=Xj he;by_cases nu:y.a < LK.a
      ·have e1:decide (y.a < LK.a)=true:=by simpa using nu
       clear fq nu;exact bc;all_goals exact dg
      ·have e1:decide (y.a < LK.a)=false:=by simpa using nu
       have e2:(y.a==LK.a)=true:=by simp;omega
       have e3:decide (y.b < LK.b)=true:=by simp;omega
       clear fq nu;exact bc;all_goals exact dg
     ·have fq:¬(y.a < LK.a∨(y.a=LK.a∧y.b < LK.b)):=fun h=>hlt (uI.2 h);have jm:=Ma ua.out h0.out hy.out (show fJ y>fJ LK by omega);clear uI Hg hlt;replace jm:=Xj jm;have e1:decide (y.a < LK.a)=false:=by simp;omega
      have Nb:∀X:List PV,((ab (out.map bG)).set (q - 1) X)[q]? =some [.d (.v (.int .i64 LK.a)),.d (.v (.int .i64 LK.b))]:=fun X=>by
       rw[Z7 (by have:=h0.out;omega),gM,Xz,hx];rfl
      by_cases nu:y.a=LK.a
      ·have e2:(y.a==LK.a)=true:=by simpa using nu
       have e3:decide (y.b < LK.b)=false:=by simp;omega
       clear fq nu;refine am ?_<;>intros;refine jI _ _ _ _ _ ?_ ⟨q - 1,(out.set (q - 1) LK).set q y,jm.out,by rw[YV,YV];exact nQ.out,rfl,rfl,rfl⟩ (wf (hh:=(by simp only[List.map_set,ab];rfl)) (hb:=cL) (hbh:=cL));have:=hm.out;have:=h0.out;omega
      ·have e2:(y.a==LK.a)=false:=by simpa using nu
       clear fq nu;refine am ?_<;>intros;refine jI _ _ _ _ _ ?_ ⟨q - 1,(out.set (q - 1) LK).set q y,jm.out,by rw[YV,YV];exact nQ.out,rfl,rfl,rfl⟩ (wf (hh:=(by simp only[List.map_set,ab];rfl)) (hb:=cL) (hbh:=cL));have:=hm.out;have:=h0.out;omega
    ·have Sf:decide ((q:Int)>0)=false:=by simp;omega
     have he:=zC ua.out uw.out (fun z h _=>absurd h h0);have ki:=hr.out;rw[←he]at ki;rw[ki];replace ki:=Xj ki;replace he:=Xj he;replace h0:=Xj h0;replace nQ:=Xj nQ;exact bc;all_goals exact dg
 ·have h1:(cN n !=0)=true:=by simpa using hc
  have hr:R=(Net.zero,cN n):=by rw[hR.out];unfold jk;rw[if_pos hc]
  rw[hr];replace hr:=Xj hr;clear hR;refine pj func79 ntmps79 results79 ?_;refine am ?_<;>intros;exact dg
theorem wH {α:Type}{l m:List α}{k:Nat}{x y:α}(hx:l[k]? =some x)(hy:m[k]? =some y)(h:l.take k=m.take k)(e:x=y):l.take (k+1)=m.take (k+1):=by rw[ag hx,ag hy,h,e]
theorem wI {α:Type}{l m:List α}(hl:l.length=m.length)(h:l.take l.length=m.take l.length):l=m:=by
 rw[Xt,hl,Xt]at h;exact h
theorem Fu (v w:Vpc)(Bl:v.ranges.length≤1000000000)(Ty:v.subs.length≤1000000000)(Sr:∀s∈v.subs,s.faces.length≤1000000000∧∀f∈s.faces,f.addrs.length≤1000000000)(lV:∀s∈w.subs,∀f∈s.faces,f.addrs.length≤1000000000):af prog 110 [.agg (al v),.agg (al w)] (.v (.bool (decide (v=w)))):=by
 obtain⟨R,hR⟩:∃R,R=decide (v=w):=⟨_,rfl⟩;rw[←hR];replace hR:=Xj hR;have cg:v≠w→R=false:=fun h=>by rw[hR.out];exact decide_eq_false h
 replace cg:=Xj cg;replace Sr:=Xj Sr;replace lV:=Xj lV;by_cases c1:v.id=w.id∧v.ranges.length=w.ranges.length∧v.subs.length=w.subs.length
 ·obtain⟨e1,e2,e3⟩:=c1;have d1:(v.id !=w.id)=false:=by simp[e1]
  have d2:((v.ranges.length:Int) !=(w.ranges.length:Int))=false:=by simp[e2]
  have d3:((v.subs.length:Int) !=(w.subs.length:Int))=false:=by simp[e3]
  replace e1:=Xj e1;replace e2:=Xj e2;replace e3:=Xj e3;refine pj func110 ntmps110 results110 ?_;refine am ?_<;>intros;refine bo ae ak v.ranges (fun k=>v.ranges.take k=w.ranges.take k) (fun k=>[(5,.d (.v (.int .i64 k))),(4,.d (.v (.bool false))),(3,.ptr 1 0),(2,.ptr 0 0)]) (fun _=>[.box 55 ((al v).map .d),.box 55 ((al w).map .d)]) rfl (wf) ?_ ?_
  ·intro k x hx hk hI C hC;have dM:(k:Int) < (v.ranges.length:Int):=by omega
   have cR:=wi k (by omega);obtain⟨y,hy⟩:∃y,w.ranges[k]? =some y:=⟨_,Xk (by rw[←e2.out];exact hk)⟩;replace hI:=Xj hI;have he:=wc x y;by_cases h1:x=y
   ·have lU:=Xj (wH hx hy hI.out h1);rw[decide_eq_true h1]at he;replace h1:=Xj h1;have z1z:=@bne.eq_1 (List Int) _;have z2z:=@bne.eq_1 Int _;refine am ?_<;>intros;exact hC _ _ lU.out (wf)
   ·have hb:R=false:=cg.out (fun e=>h1 (by subst e;rw[hx]at hy;exact XX.inj hy));rw[decide_eq_false h1]at he;rw[hb];replace hb:=Xj hb;replace h1:=Xj h1;have z1z:=@bne.eq_1 (List Int) _;have z2z:=@bne.eq_1 Int _;exact bc;all_goals exact ai.refl _
  ·intro hI C;have nF:=Xj (wI e2.out hI);replace hI:=Xj hI;refine am ?_<;>intros;clear hI;refine bo ae ak v.subs (fun k=>v.subs.take k=w.subs.take k) (fun k=>[(6,.d (.v (.int .i64 k))),(4,.d (.v (.bool false))),(3,.ptr 1 0),(2,.ptr 0 0)]) (fun _=>[.box 55 ((al v).map .d),.box 55 ((al w).map .d)]) rfl (wf) ?_ ?_
   ·intro k x hx hk hI C hC;have dM:(k:Int) < (v.subs.length:Int):=by omega
    have cR:=wi k (by omega);obtain⟨y,hy⟩:∃y,w.subs[k]? =some y:=⟨_,Xk (by rw[←e3.out];exact hk)⟩;have FF:=Sr.out x (Xl hx);have rP:=lV.out y (Xl hy);have a0i:=FF.1;have Wf:=Xj FF.2;clear FF;replace rP:=Xj rP;have bI:x≠y→R=false:=fun h=>cg.out (fun e=>h (by subst e;rw[hx]at hy;exact XX.inj hy));replace bI:=Xj bI;replace hI:=Xj hI;have he:=we x.at_ y.at_;by_cases c2:x.id=y.id∧x.at_=y.at_∧x.faces.length=y.faces.length
    ·obtain⟨f1,f2,f3⟩:=c2;have g1:(x.id==y.id)=true:=by simp[f1]
     have g3:((x.faces.length:Int)==(y.faces.length:Int))=true:=by simp[f3]
     rw[decide_eq_true f2]at he;replace f1:=Xj f1;replace f2:=Xj f2;replace f3:=Xj f3;have z1z:=@bne.eq_1 (List Int) _;have z2z:=@bne.eq_1 Int _;refine am ?_<;>intros;refine bo ae ak x.faces (fun j=>x.faces.take j=y.faces.take j) (fun j=>[(9,.d (.v (.int .i64 j))),(8,.ptr 3 0),(7,.ptr 2 0),(6,.d (.v (.int .i64 k))),(4,.d (.v (.bool false))),(3,.ptr 1 0),(2,.ptr 0 0)]) (fun _=>[.box 55 ((al v).map .d),.box 55 ((al w).map .d),.box 71 ((aT x).map .d),.box 71 ((aT y).map .d)]) rfl (wf) ?_ ?_
     ·intro j f hf hj hJ C2 jI;have ip:(j:Int) < (x.faces.length:Int):=by omega
      have kj:=wi j (by omega);obtain⟨g,hg⟩:∃g,y.faces[j]? =some g:=⟨_,Xk (by rw[←f3.out];exact hj)⟩;have Ei:=Fa f.addrs g.addrs (Wf.out f (Xl hf)) (rP.out g (Xl hg));have yi:f≠g→R=false:=fun h=>bI.out (fun e=>h (by subst e;rw[hf]at hg;exact XX.inj hg));replace yi:=Xj yi;replace hJ:=Xj hJ;by_cases i1:f.id=g.id
      ·have n1:(f.id==g.id)=true:=by simp[i1]
       by_cases i2:f.addrs=g.addrs
       ·rw[decide_eq_true i2]at Ei;have Wg:f=g:=by cases f;cases g;simp at i1 i2;rw[i1,i2]
        have Bm:=Xj (wH hf hg hJ.out Wg);replace Wg:=Xj Wg;replace i1:=Xj i1;replace i2:=Xj i2;have z1z:=@bne.eq_1 (List Int) _;have z2z:=@bne.eq_1 Int _;refine am ?_<;>intros;exact jI _ _ Bm.out (wf)
       ·rw[decide_eq_false i2]at Ei;have hb:R=false:=yi.out (fun e=>i2 (by rw[e]));rw[hb];replace hb:=Xj hb;replace i1:=Xj i1;replace i2:=Xj i2;have z1z:=@bne.eq_1 (List Int) _;have z2z:=@bne.eq_1 Int _;exact bc;all_goals exact ai.refl _
      ·have n1:(f.id==g.id)=false:=by simpa using i1
       have hb:R=false:=yi.out (fun e=>i1 (by rw[e]));rw[hb];replace hb:=Xj hb;replace i1:=Xj i1;have z1z:=@bne.eq_1 (List Int) _;have z2z:=@bne.eq_1 Int _;exact bc;all_goals exact ai.refl _
     ·intro hJ C2;have PC:=wI f3.out hJ;have Hh:x=y:=by
       have h1:=f1.out;have h2:=f2.out;cases x;cases y;simp at h1 h2 PC;rw[h1,h2,PC]
      have lU:=Xj (wH hx hy hI.out Hh);replace hJ:=Xj hJ;replace PC:=Xj PC;replace Hh:=Xj Hh;refine am ?_<;>intros;exact hC _ _ lU.out (wf)
    ·have hb:R=false:=bI.out (fun e=>c2 ⟨by rw[e],by rw[e],by rw[e]⟩);rw[hb];replace hb:=Xj hb;rw[Decidable.not_and_iff_or_not,Decidable.not_and_iff_or_not]at c2;rcases c2 with c2|c2|c2
     ·have g1:(x.id==y.id)=false:=by simpa using c2
      replace c2:=Xj c2;have z1z:=@bne.eq_1 (List Int) _;have z2z:=@bne.eq_1 Int _;exact bc;all_goals exact ai.refl _
     ·rw[decide_eq_false c2]at he;replace c2:=Xj c2;have z1z:=@bne.eq_1 (List Int) _;have z2z:=@bne.eq_1 Int _;exact bc;all_goals exact ai.refl _
     ·have g3:((x.faces.length:Int)==(y.faces.length:Int))=false:=by simp;omega
      replace c2:=Xj c2;cases hd:decide (x.at_=y.at_);all_goals
       rw[hd]at he;replace hd:=Xj hd;have z1z:=@bne.eq_1 (List Int) _;have z2z:=@bne.eq_1 Int _;exact bc;all_goals exact ai.refl _
   ·intro hI C;have Nt:=wI e3.out hI;have hb:R=true:=by
     rw[hR.out,decide_eq_true_eq];have h1:=e1.out;have h2:=nF.out;cases v;cases w;simp at h1 h2 Nt;rw[h1,h2,Nt]
    rw[hb];replace hb:=Xj hb;replace hI:=Xj hI;replace Nt:=Xj Nt;exact bc;all_goals exact ai.refl _
 ·have hb:R=false:=cg.out (fun e=>c1 ⟨by rw[e],by rw[e],by rw[e]⟩);rw[hb];replace hb:=Xj hb;rw[Decidable.not_and_iff_or_not,Decidable.not_and_iff_or_not]at c1;rcases c1 with c1|c1|c1
  ·have g1:(v.id==w.id)=false:=by simpa using c1
   replace c1:=Xj c1;refine pj func110 ntmps110 results110 ?_;have z1z:=@bne.eq_1 (List Int) _;have z2z:=@bne.eq_1 Int _;exact bc;all_goals exact ai.refl _
  ·have g1:((v.ranges.length:Int)==(w.ranges.length:Int))=false:=by simp;omega
   replace c1:=Xj c1;refine pj func110 ntmps110 results110 ?_;have z1z:=@bne.eq_1 (List Int) _;have z2z:=@bne.eq_1 Int _;exact bc;all_goals exact ai.refl _
  ·have g1:((v.subs.length:Int)==(w.subs.length:Int))=false:=by simp;omega
   replace c1:=Xj c1;refine pj func110 ntmps110 results110 ?_;have z1z:=@bne.eq_1 (List Int) _;have z2z:=@bne.eq_1 Int _;exact bc;all_goals exact ai.refl _
def O7 (s:Sbn):Prop:=s.faces.length≤1000000000∧∀f∈s.faces,f.addrs.length≤1000000000
def GY (v:Vpc):Prop:=v.ranges.length≤1000000000∧v.subs.length≤1000000000∧∀s∈v.subs,O7 s
def kg (n:Net):Prop:=n.vpcs.length≤1000000000∧n.links.length≤1000000000∧∀v∈n.vpcs,GY v
theorem Fv (n:Net)(h:kg n):af prog 42 [.agg (aK n),.agg (aK n)] (.v (.bool true)):=by
 obtain⟨h1,h2,h3⟩:=h;replace h3:=Xj h3;refine pj func42 ntmps42 results42 ?_;refine am ?_<;>intros;refine bo ae ak n.vpcs (fun _=>True) (fun k=>[(5,.d (.v (.int .i64 k))),(4,.d (.v (.bool false))),(3,.ptr 1 0),(2,.ptr 0 0)]) (fun _=>[.box 28 ((aK n).map .d),.box 28 ((aK n).map .d)]) trivial (wf) ?_ ?_
 ·intro k v hv hk _ C hC;have dM:(k:Int) < (n.vpcs.length:Int):=by omega
  have cR:=wi k (by omega);have hs:=h3.out v (Xl hv);have lN:=Fu v v hs.1 hs.2.1 (fun s lN=>hs.2.2 s lN) (fun s lN=>(hs.2.2 s lN).2);rw[decide_eq_true rfl]at lN;clear hs;refine am ?_<;>intros;exact hC _ _ trivial (wf)
 ·intro _ C;refine am ?_<;>intros;refine bo ae ak n.links (fun _=>True) (fun k=>[(6,.d (.v (.int .i64 k))),(4,.d (.v (.bool false))),(3,.ptr 1 0),(2,.ptr 0 0)]) (fun _=>[.box 28 ((aK n).map .d),.box 28 ((aK n).map .d)]) trivial (wf) ?_ ?_
  ·intro k l hl hk _ C hC;have dM:(k:Int) < (n.links.length:Int):=by omega
   have cR:=wi k (by omega);refine am ?_<;>intros;exact hC _ _ trivial (wf)
  ·intro _ C;exact bc;all_goals exact ai.refl _
theorem dy:kg Net.zero:=⟨XE _,XE _,fun v h=>by simp[Net.zero]at h⟩
theorem Fw {v:Vpc}(h:VpcOK v):GY v:=⟨by have:=h.n4;omega,by have:=h.n6;omega,fun s hs=>⟨by have:=(h.n8 s hs).1;omega,fun f hf=>by have:=(h.n8 s hs).2 f hf;omega⟩⟩
theorem eH {n:Net}(h:NetOK n):kg n:=⟨by have:=h.n6;omega,by have:=h.n12;omega,fun v hv=>Fw (aY (h.vp v hv))⟩
theorem Dz (n:Net)(id:Int):kg (iJ n id).1:=by
 unfold iJ;split
 ·exact dy
 ·rename_i hc;have bF:=gU.1 (by simpa using hc);split
  ·exact dy
  ·obtain⟨a,b,c⟩:=eH bF;refine⟨?_,b,fun v hv=>?_⟩
   ·show (di _ _ n.vpcs).length≤_;rw[fi];have:=bF.n6;omega
   ·rcases mr.1 hv with rfl|hv
    ·exact⟨XE _,XE _,fun s hs=>by simp at hs⟩
    ·exact c v hv
theorem DA (n:Net)(id:Int)(r:Rng):kg (gV n id r).1:=by
 unfold gV;split
 ·exact dy
 ·rename_i hc;have bF:=gU.1 (by simpa using hc);split
  ·exact dy
  ·split
   ·exact dy
   ·split
    ·exact dy
    ·rename_i i hi v hv hg;split
     ·rename_i hp;exact eH (gU.1 ((zB bF hv (by simpa using hg)).1.2 hp))
     ·exact dy
theorem DB (n:Net)(a b:Int):kg (jk n a b).1:=by
 unfold jk;split
 ·exact dy
 ·rename_i hc;have bF:=gU.1 (by simpa using hc);split
  ·exact dy
  ·obtain⟨x,y,z⟩:=eH bF;refine⟨x,?_,z⟩;show (di _ _ n.links).length≤_;rw[fi];have:=bF.n12;omega
theorem DC (n:Net)(a b:Int):kg (iI n a b).1:=by
 unfold iI;split
 ·exact dy
 ·rename_i hc;have bF:=gU.1 (by simpa using hc);split
  ·exact dy
  ·obtain⟨x,y,z⟩:=eH bF;refine⟨x,?_,z⟩;rename_i i hi;show (n.links.eraseIdx i).length≤_;have:=List.length_eraseIdx_le n.links i;omega
def pc (s:Ste):Prop:=li s.book∧kg s.net
theorem jE {b:Bok}(h:BookOK b):li b:=⟨by have:=h.n8;omega,fun p hp=>by have:=h.l32 p hp;omega⟩
theorem rD:pc .zero:=⟨bT,dy⟩
theorem DD {b:Bok}(h:BookOK b)(vs:List Vpc)(c:Cmd):li (mF b vs c).1:=by
 have hb:=jE h;unfold mF;repeat' split
 all_goals first|exact hb|exact Dm ..|exact Dn ..|exact AK ..|exact Do ..|exact tP ..|exact tQ ..
theorem Fx {n:Net}(h:NetOK n)(b:Bok)(c:Cmd):kg (xS b n c).1:=by
 have hn:=eH h;unfold xS;repeat' split
 all_goals first|exact hn|exact Dz ..|exact DB ..|exact DC ..
theorem jF {n:Net}(h:NetOK n){v:Vpc}(hv:nm v)(k:Nat):kg {n with vpcs:=n.vpcs.set k v}:=by
 obtain⟨a,b,c⟩:=eH h;refine⟨by show (n.vpcs.set k v).length≤_;rw[YV];exact a,b,fun w hw=>?_⟩;rcases Y4 hw with hw|rfl
 ·exact c w hw
 ·exact hv
theorem AT {b:Bok}{n:Net}(hb:BookOK b)(hn:NetOK n)(c:Cmd)(k:Nat)(v:Vpc):li (lQ b n c k v).1∧kg (lQ b n c k v).2.1:=by
 have h1:=jE hb;have h2:=eH hn;unfold lQ;repeat' split
 all_goals refine⟨?_,?_⟩
 all_goals first|exact h1|exact h2|exact tP ..|exact tQ ..|exact DA ..|exact jF hn (Dp ..) _|exact jF hn (Fk ..) _|exact jF hn (AL ..) _|exact jF hn (Dq ..) _|exact jF hn (Dr ..) _|exact jF hn (xU ..) _
theorem AU {b:Bok}{n:Net}(hb:BookOK b)(hn:NetOK n)(c:Cmd):li (jB b n c).1∧kg (jB b n c).2.1:=by
 unfold jB;split
 ·exact⟨jE hb,eH hn⟩
 ·split
  ·exact AT hb hn ..
  ·exact⟨jE hb,eH hn⟩
theorem zF (s:Ste)(c:Cmd):pc (AJ s c).1:=by
 unfold AJ;by_cases h:ig s=0
 ·obtain⟨yd,pi⟩:=wu h;have hb:=dI yd;have hn:=gU.1 pi;rw[if_neg (by simpa using h)];split
  ·exact⟨jE hb,eH hn⟩
  ·unfold AI;split
   ·exact⟨DD hb ..,eH hn⟩
   ·split
    ·exact⟨jE hb,Fx hn ..⟩
    ·split
     ·exact AU hb hn c
     ·exact⟨jE hb,eH hn⟩
 ·rw[if_pos h];exact rD
theorem pc.hz {s:Ste}(h:pc s):∀p∈s.book.pools,p.leases.length≤3518437208882:=fun p hp=>by have:=h.1.2 p hp;omega
def mJ (s:Ste)(l:List Cmd):Ste:=l.foldl (fun s c=>(AJ s c).1) s
def oL:Ste→List Cmd→List Ans
 |_,[]=>[]
 |s,c::l=>(AJ s c).2.1::oL (AJ s c).1 l
def DE (l:List Cmd):Ste × List Ans × Int:=if 200 < l.length then (.zero,[],2)else (mJ .zero l,oL .zero l,0)
theorem wJ (s:Ste)(l:List Cmd)(c:Cmd):mJ s (l++[c])=(AJ (mJ s l) c).1:=by
 unfold mJ;rw[Zn];rfl
theorem wK:∀(l:List Cmd) (s:Ste) (c:Cmd),oL s (l++[c])=oL s l++[(AJ (mJ s l) c).2.1]
 |[],_,_=>rfl
 |d::l,s,c=>by
  show _::oL _ (l++[c])=_;rw[wK l];rfl
theorem zG:∀(l:List Cmd) (s:Ste),(oL s l).length=l.length
 |[],_=>rfl
 |_::l,s=>by show (oL _ l).length+1=_;rw[zG l];rfl
theorem DF (l:List Cmd):pc (mJ .zero l):=by
 rcases List.eq_nil_or_concat l with rfl|⟨l,c,rfl⟩
 ·exact rD
 ·rw[List.concat_eq_append,wJ];exact zF ..
abbrev IW:=List Int × Int
theorem GZ:∀{m:List IW}{k:List Int}{v:Int},(∀x∈m,x.1≠k)→l9 m k v=m++[(k,v)]
 |[],k,v,_=>rfl
 |(k',x)::m,k,v,h=>by
  unfold l9;rw[if_neg (h _ (F' ..)),GZ fun y hy=>h y (Zc _ hy)];rfl
def S6 (m:List IW)(x:IW):List IW:=l9 m x.1 x.2
theorem G0:∀(l m:List IW),(m++l).Pairwise (fun a b=>a.1≠b.1)→l.foldl S6 m=m++l
 |[],m,_=>by simp
 |x::l,m,h=>by
  rw[YO];have h1:=(YT.1 h).2.2;have e:S6 m x=m++[x]:=GZ fun y hy=>h1 y hy x (F' ..);rw[e,G0 l (m++[x]) (by simpa using h)];simp
def Fy (p:Pol):List IW:=(p.leases.filter fun l=>l.kind==1).map fun l=>([l.at_.at_,l.at_.len,p.id],l.owner)
def rE (b:Bok):List IW:=b.pools.flatMap Fy
theorem Mc (p:Pol)(m:List IW):KR m p=(Fy p).foldl S6 m:=by
 unfold KR Fy;generalize p.leases=l;induction l generalizing m with
 |nil=>rfl
 |cons a l ih=>
  rw[YO,ih];unfold Js;by_cases h:a.kind=1
  ·rw[if_pos h,List.filter_cons_of_pos (by simpa using h)];rfl
  ·rw[if_neg h,List.filter_cons_of_neg (by simpa using h)]
theorem Md (b:Bok):uh b=(rE b).foldl S6 []:=by
 unfold uh rE;have key:∀(l:List Pol) (m:List IW),l.foldl KR m=(l.flatMap Fy).foldl S6 m:=by
  intro l;induction l with
  |nil=>intro m;rfl
  |cons p l ih=>intro m;rw[YO,ih,List.flatMap_cons,Zn,Mc]
 exact key _ _
theorem jG {b:Bok}(h:BookOK b):(rE b).Pairwise fun x y=>x.1≠y.1:=by
 unfold rE;rw[List.pairwise_flatMap];constructor
 ·intro p hp;have hl:=lc (h.mem p hp).2.1;unfold Fy;rw[Y3];exact(hl.filter _).imp fun {a b} gJ e=>by simp at e;omega
 ·refine h.rise.imp fun {p q} hpq x hx y hy e=>?_;unfold Fy at hx hy;obtain⟨l,-,rfl⟩:=XQ.1 hx;obtain⟨l',-,rfl⟩:=XQ.1 hy;simp at e;omega
theorem AV {b:Bok}(h:BookOK b):uh b=rE b:=by
 rw[Md,G0 _ [] (by simpa using jG h)];rfl
theorem pf:∀{l:List IW},l.Pairwise (fun x y=>x.1≠y.1)→∀{k:List Int}{o:Int},kF l k=some o↔(k,o)∈l
 |[],_,k,o=>by simp[kF]
 |(k',x)::l,h,k,o=>by
  have h':=YC.1 h;unfold kF;by_cases e:k'=k
  ·subst e;rw[if_pos rfl];constructor
   ·intro hx;cases hx;exact F' ..
   ·intro hx;rcases X7.1 hx with hx|hx
    ·cases hx;rfl
    ·exact absurd rfl (h'.1 (k',o) hx)
  ·rw[if_neg e,pf h'.2];constructor
   ·exact fun hx=>Zc _ hx
   ·intro hx;rcases X7.1 hx with hx|hx
    ·cases hx;exact absurd rfl e
    ·exact hx
theorem qn {b:Bok}{k:List Int}{o:Int}:(k,o)∈rE b↔∃p∈b.pools,∃l∈p.leases,l.kind=1∧k=[l.at_.at_,l.at_.len,p.id]∧o=l.owner:=by
 unfold rE Fy;simp only[ZY,XQ,Zt,Prod.mk.injEq,beq_iff_eq];constructor
 ·rintro⟨p,hp,l,⟨hl,hk⟩,rfl,rfl⟩;exact⟨p,hp,l,hl,hk,rfl,rfl⟩
 ·rintro⟨p,hp,l,hl,hk,rfl,rfl⟩;exact⟨p,hp,l,⟨hl,hk⟩,rfl,rfl⟩
theorem Me {α:Type}[DecidableEq α]{l m:List α}(hl:l.Nodup)(hm:m.Nodup)(hs:∀x∈l,x∈m):l.length≤m.length∧(l.length=m.length↔∀x∈m,x∈l):=by
 have h1:=hl.length_le_of_subset hs;refine⟨h1,fun h x hx=>?_,fun h=>Nat.le_antisymm h1 (hm.length_le_of_subset h)⟩;refine Classical.byContradiction fun hn=>?_;have h2:(x::l).Nodup:=List.nodup_cons.2 ⟨hn,hl⟩;have h3:=h2.length_le_of_subset (fun y hy=>by
  rcases X7.1 hy with rfl|hy
  ·exact hx
  ·exact hs y hy:(x::l) ⊆ m)
 simp at h3;omega
def wL (vs:List Vpc):List (List Int):=vs.flatMap fun v=>v.ranges.map fun r=>[r.at_.at_,r.at_.len,r.pool]
theorem IY (vs:List Vpc):(wL vs).length=ow vs:=by
 unfold wL ow;rw[List.length_flatMap];simp
theorem wM {E:List IW}{id:Int}{r:Rng}(hid:id≠0):Aw E id r=true↔kF E [r.at_.at_,r.at_.len,r.pool]=some id:=by
 unfold Aw;cases h:kF E [r.at_.at_,r.at_.len,r.pool]with
 |none=>simp;omega
 |some x=>simp
theorem DG {E:List IW}{vs:List Vpc}(hr:vs.Pairwise fun a b=>a.id < b.id)(hv:∀v∈vs,v.id≠0∧v.ranges.Pairwise fun a b=>a.at_.at_ < b.at_.at_)(bF:kX E vs=true):(wL vs).Nodup:=by
 unfold wL List.Nodup;rw[List.pairwise_flatMap];have jc:∀v∈vs,∀r∈v.ranges,kF E [r.at_.at_,r.at_.len,r.pool]=some v.id:=fun v rV r uK=>
  (wM (hv v rV).1).1 (XC.1 (XC.1 bF v rV) r uK)
 constructor
 ·intro v rV;rw[Y3];exact(hv v rV).2.imp fun {a b} gJ e=>by simp at e;omega
 ·rw[XF]at hr ⊢;intro i j hi hj hij x hx y hy e;obtain⟨r,uK,rfl⟩:=XQ.1 hx;obtain⟨r',Wh,rfl⟩:=XQ.1 hy;have h1:=jc _ (Ym hi) r uK;have h2:=jc _ (Ym hj) r' Wh;rw[e,h2]at h1;have:=hr i j hi hj hij;simp at h1;omega
theorem IZ {E:List IW}{vs:List Vpc}(hE:E.Pairwise fun x y=>x.1≠y.1)(hr:vs.Pairwise fun a b=>a.id < b.id)(hv:∀v∈vs,v.id≠0∧v.ranges.Pairwise fun a b=>a.at_.at_ < b.at_.at_)(bF:kX E vs=true):
 ow vs=(E.countP fun kv=>gD vs kv.2)↔∀kv∈E,gD vs kv.2=true→kv.1∈wL vs:=by
 have hA:=DG hr hv bF;have hB:((E.filter fun kv=>gD vs kv.2).map (·.1)).Nodup:=by
  unfold List.Nodup;rw[Y3];exact(hE.filter _)
 have hs:∀x∈wL vs,x∈(E.filter fun kv=>gD vs kv.2).map (·.1):=by
  intro x hx;obtain⟨v,rV,hx⟩:=ZY.1 hx;obtain⟨r,uK,rfl⟩:=XQ.1 hx;have h1:=(wM (hv v rV).1).1 (XC.1 (XC.1 bF v rV) r uK);have h2:=(pf hE).1 h1;exact XQ.2 ⟨_,Zt.2 ⟨h2,XU.2 ⟨v,rV,by simp⟩⟩,rfl⟩
 have h:=(Me hA hB hs).2;rw[IY,XD,←List.countP_eq_length_filter]at h;rw[h];constructor
 ·intro h kv G9 hh;exact h _ (XQ.2 ⟨kv,Zt.2 ⟨G9,hh⟩,rfl⟩)
 ·intro h x hx;obtain⟨kv,G9,rfl⟩:=XQ.1 hx;obtain⟨h1,h2⟩:=Zt.1 G9;exact h kv h1 h2
theorem I0 {b:Bok}(h:BookOK b){p q:Pol}(hp:p∈b.pools)(hq:q∈b.pools)(e:p.id=q.id):p=q:=by
 obtain⟨i,hi,rfl⟩:=Yb hp;obtain⟨j,hj,rfl⟩:=Yb hq;have hr:=XF.1 h.rise;rcases Zb i j with h1|h1|h1
 ·have:=hr i j hi hj h1;omega
 ·subst h1;rfl
 ·have:=hr j i hj hi h1;omega
theorem Mf {b:Bok}(h:BookOK b)(pid:Int)(at_:Pfx):kF (uh b) [at_.at_,at_.len,pid]=(gG b pid at_).map (·.owner):=by
 rw[AV h];unfold gG bK;cases hf:b.pools.find? fun p=>p.id==pid with
 |none=>
  simp only[Zg];cases hk:kF (rE b) [at_.at_,at_.len,pid]with
  |none=>rfl
  |some o=>
   obtain⟨p,hp,l,hl,pk,he,-⟩:=qn.1 ((pf (jG h)).1 hk);have:=Yq.1 hf p hp;simp at he this;omega
 |some p=>
  have oQ:=YF hf;have xe:p.id=pid:=by have:=Zh hf;simpa using this
  simp only;cases hl:p.leases.find? (jh at_)with
  |none=>
   simp only[Zg];cases hk:kF (rE b) [at_.at_,at_.len,pid]with
   |none=>rfl
   |some o=>
    obtain⟨q,hq,l,lS,pk,he,-⟩:=qn.1 ((pf (jG h)).1 hk);simp at he;obtain rfl:=I0 h oQ hq (by omega);have:=Yq.1 hl l lS;unfold jh at this;exfalso;apply this;have:l.at_=at_:=by
     have h1:=he.1;have h2:=he.2.1;cases nu:l.at_ with
     |mk x y=>
      cases at_ with
      |mk x' y'=>rw[nu]at h1 h2;simp only at h1 h2;rw[h1,h2]
    simp[pk,this]
  |some l=>
   simp only[Ye];have lS:=YF hl;have hg:=Zh hl;unfold jh at hg;rw[Xy]at hg;have g1:l.kind=1:=by simpa using hg.1
   have g2:l.at_=at_:=of_decide_eq_true hg.2;rw[pf (jG h)];exact qn.2 ⟨p,oQ,l,lS,g1,by rw[g2,xe],rfl⟩
def Jt (b:Bok)(id:Int)(r:Rng):Bool:=match gG b r.pool r.at_ with|some l=>l.owner==id|none=>false
def I1 (vs:List Vpc)(pid:Int)(l:Lse):Bool:=!(l.kind==1)||(match vs.find? (·.id==l.owner)with|some v=>v.ranges.any fun r=>decide (r=(⟨l.at_,pid⟩:Rng))|none=>true)
def Mg (s:Ste):Bool:=s.net.vpcs.all fun v=>v.ranges.all (Jt s.book v.id)
def Fz (s:Ste):Bool:=s.book.pools.all fun p=>p.leases.all (I1 s.net.vpcs p.id)
theorem O8 {s:Ste}(h:BookOK s.book)(hv:∀v∈s.net.vpcs,v.id≠0):kX (uh s.book) s.net.vpcs=Mg s:=by
 unfold kX Mg;have key:∀v∈s.net.vpcs,∀r∈v.ranges,Aw (uh s.book) v.id r=Jt s.book v.id r:=by
  intro v rV r _;unfold Aw Jt;rw[Mf h];cases gG s.book r.pool r.at_ with
  |none=>have:=hv v rV;simp;omega
  |some l=>simp
 rw[Yi,XC,XC];refine forall_congr' fun v=>forall_congr' fun rV=>?_;rw[XC,XC];exact forall_congr' fun r=>forall_congr' fun uK=>by rw[key v rV r uK]
theorem Mh {vs:List Vpc}(hr:vs.Pairwise fun a b=>a.id < b.id){v w:Vpc}(hv:v∈vs)(hw:w∈vs)(e:v.id=w.id):v=w:=by
 obtain⟨i,hi,rfl⟩:=Yb hv;obtain⟨j,hj,rfl⟩:=Yb hw;have hr:=XF.1 hr;rcases Zb i j with h1|h1|h1
 ·have:=hr i j hi hj h1;omega
 ·subst h1;rfl
 ·have:=hr j i hj hi h1;omega
theorem O9 {s:Ste}(h:BookOK s.book)(hr:s.net.vpcs.Pairwise fun a b=>a.id < b.id)(hv:∀v∈s.net.vpcs,v.id≠0)(bF:kX (uh s.book) s.net.vpcs=true):
 (∀kv∈uh s.book,gD s.net.vpcs kv.2=true→kv.1∈wL s.net.vpcs)↔Fz s=true:=by
 rw[AV h]at bF ⊢;unfold Fz;simp only[XC];constructor
 ·intro hk p hp l hl;unfold I1;by_cases pk:l.kind=1
  ·have hm:=qn.2 ⟨p,hp,l,hl,pk,rfl,rfl⟩;cases hf:s.net.vpcs.find? (·.id==l.owner)with
   |none=>simp
   |some v=>
    have rV:=YF hf;have Ug:v.id=l.owner:=by have:=Zh hf;simpa using this
    have hka:=hk _ hm (XU.2 ⟨v,rV,by simpa using Ug⟩);obtain⟨w,A9,hx⟩:=ZY.1 hka;obtain⟨r,uK,he⟩:=XQ.1 hx;have h1:=(wM (hv w A9)).1 (XC.1 (XC.1 bF w A9) r uK);have h2:=(pf (jG h)).2 hm;simp only at he;rw[he,h2]at h1;have hwv:w=v:=Mh hr A9 rV (by simp at h1;omega);subst hwv;have:r=⟨l.at_,p.id⟩:=by
     cases r with
     |mk a pl=>
      cases a;cases nu:l.at_;simp_all
    simp only[pk,beq_self_eq_true,Z0,ZT];exact XU.2 ⟨r,uK,by simpa using this⟩
  ·simp[pk]
 ·rintro hk ⟨k,o⟩ G9 hh;obtain⟨p,hp,l,hl,pk,rfl,rfl⟩:=qn.1 G9;have h1:=hk p hp l hl;unfold I1 at h1;simp only[pk,beq_self_eq_true,Z0,ZT]at h1;obtain⟨v,rV,Ug⟩:=XU.1 hh;cases hf:s.net.vpcs.find? (·.id==l.owner)with
  |none=>exact absurd Ug (by simpa using Yq.1 hf v rV)
  |some w=>
   rw[hf]at h1;obtain⟨r,uK,he⟩:=XU.1 h1;have he:r=⟨l.at_,p.id⟩:=by simpa using he
   exact ZY.2 ⟨w,YF hf,XQ.2 ⟨r,uK,by rw[he]⟩⟩
theorem I2 (s:Ste):ig s=if aZ s.book≠0 then aZ s.book else if cN s.net≠0 then cN s.net else if (Mg s&&Fz s)=true then 0 else 1:=by
 unfold ig;by_cases h1:aZ s.book=0
 ·have n1:¬aZ s.book≠0:=fun h=>h h1;by_cases h2:cN s.net=0
  ·have n2:¬cN s.net≠0:=fun h=>h h2;rw[if_neg n1,if_neg n1,if_neg n2,if_neg n2];have hb:=dI h1;have hn:=gU.1 h2;have hv:∀v∈s.net.vpcs,v.id≠0:=fun v rV e=>by
    have:=(aY (hn.vp v rV)).id;unfold cI at this;rw[e]at this;simp at this
   have Ty:∀v∈s.net.vpcs,v.id≠0∧v.ranges.Pairwise fun a b=>a.at_.at_ < b.at_.at_:=fun v rV=>⟨hv v rV,(aY (hn.vp v rV)).rr⟩;rw[←O8 hb hv];cases bF:kX (uh s.book) s.net.vpcs with
   |false=>simp
   |true=>
    have hc:=IZ (E:=uh s.book) (by rw[AV hb];exact jG hb) hn.rise Ty bF;rw[O9 hb hn.rise hv bF]at hc;simp only[Yr,decide_eq_true_eq];by_cases h3:Fz s=true
    ·rw[if_pos (hc.2 h3),if_pos h3]
    ·rw[if_neg (fun e=>h3 (hc.1 e)),if_neg h3]
  ·rw[if_neg n1,if_neg n1,if_pos h2,if_pos h2]
 ·rw[if_pos h1,if_pos h1]
theorem rF {α:Type}{p:α→Bool}{l:List α}{k:Nat}{x:α}(hx:l[k]? =some x)(h:(l.take k).any p=false)(hp:p x=false):(l.take (k+1)).any p=false:=by
 rw[ag hx,List.any_append,h];simpa using hp
theorem uG {α:Type}{p:α→Bool}{l:List α}{k:Nat}{x:α}(hx:l[k]? =some x)(hp:p x=true):l.any p=true:=XU.2 ⟨x,Xl hx,hp⟩
theorem wN (v:Vpc)(r:Rng)(hl:v.ranges.length≤1000000000):af prog 40 [.agg (al v),.agg (bp r)] (.v (.bool (v.ranges.any fun x=>decide (x=r)))):=by
 obtain⟨R,hR⟩:∃R,R=v.ranges.any fun x=>decide (x=r):=⟨_,rfl⟩;rw[←hR];replace hR:=Xj hR;refine pj func40 ntmps40 results40 ?_;refine am ?_;refine bo ae ak v.ranges (fun k=>((v.ranges.take k).any fun x=>decide (x=r))=false) (fun k=>[(5,.d (.v (.int .i64 k))),(4,.d (.v (.bool false))),(3,.ptr 1 0),(2,.ptr 0 0)]) (fun _=>[.box 55 ((al v).map .d),.box 58 ((bp r).map .d)]) rfl wf ?_ ?_
 ·intro k x hx hk hI C hC;have dM:(k:Int) < (v.ranges.length:Int):=by omega
  have cR:=wi k (by omega);have he:=wc x r;replace hI:=Xj hI;cases hp:decide (x=r)with
  |true=>
   rw[hp]at he;have hr:R=true:=by rw[hR.out];exact uG hx hp
   rw[hr];replace hp:=Xj hp;exact bc
  |false=>
   rw[hp]at he;have lU:=Xj (rF hx hI.out hp);replace hp:=Xj hp;refine am ?_;exact hC _ _ lU.out wf
 ·intro hI C;rw[Xt]at hI;have hr:R=false:=by rw[hR.out,hI]
  rw[hr];replace hI:=Xj hI;exact bc
theorem I3 (n:Net)(r:Rng)(hl:n.vpcs.length≤1000000000)(hv:∀v∈n.vpcs,v.ranges.length≤1000000000):af prog 164 [.agg (aK n),.agg (bp r)] (.v (.bool (n.vpcs.any fun v=>v.ranges.any fun x=>decide (x=r)))):=by
 obtain⟨R,hR⟩:∃R,R=n.vpcs.any fun v=>v.ranges.any fun x=>decide (x=r):=⟨_,rfl⟩;rw[←hR];replace hR:=Xj hR;replace hv:=Xj hv;refine pj func164 ntmps164 results164 ?_;refine am ?_;refine bo ae ak n.vpcs (fun k=>((n.vpcs.take k).any fun v=>v.ranges.any fun x=>decide (x=r))=false) (fun k=>[(5,.d (.v (.int .i64 k))),(4,.d (.v (.bool false))),(3,.ptr 1 0),(2,.ptr 0 0)]) (fun _=>[.box 28 ((aK n).map .d),.box 58 ((bp r).map .d)]) rfl wf ?_ ?_
 ·intro k v hx hk hI C hC;have dM:(k:Int) < (n.vpcs.length:Int):=by omega
  have cR:=wi k (by omega);have hh:=wN v r (hv.out v (Xl hx));replace hI:=Xj hI;cases hp:v.ranges.any fun x=>decide (x=r)with
  |true=>
   rw[hp]at hh;have hr:R=true:=by rw[hR.out];exact uG hx hp
   rw[hr];replace hp:=Xj hp;exact bc
  |false=>
   rw[hp]at hh;have lU:=Xj (rF hx hI.out hp);replace hp:=Xj hp;refine am ?_;exact hC _ _ lU.out wf
 ·intro hI C;rw[Xt]at hI;have hr:R=false:=by rw[hR.out,hI]
  rw[hr];replace hI:=Xj hI;exact bc
def wO (b:Bok)(id:Int):Bool:=b.pools.any fun p=>p.leases.any fun l=>l.kind==1&&l.owner==id
theorem Pa (b:Bok)(id:Int)(hl:b.pools.length≤1000000000)(hv:∀p∈b.pools,p.leases.length≤1000000000):af prog 77 [.agg (aS b),.v (.int .i64 id)] (.v (.bool (wO b id))):=by
 unfold wO;obtain⟨R,hR⟩:∃R,R=b.pools.any fun p=>p.leases.any fun l=>l.kind==1&&l.owner==id:=⟨_,rfl⟩;rw[←hR];replace hR:=Xj hR;replace hv:=Xj hv;refine pj func77 ntmps77 results77 ?_;refine am ?_;refine bo ae ak b.pools (fun k=>((b.pools.take k).any fun p=>p.leases.any fun l=>l.kind==1&&l.owner==id)=false) (fun k=>[(5,.d (.v (.int .i64 k))),(4,.d (.v (.bool false))),(2,.ptr 0 0),(1,.d (.v (.int .i64 id)))]) (fun _=>[.box 24 ((aS b).map .d)]) rfl wf ?_ ?_
 ·intro k p hx hk hI C hC;have dM:(k:Int) < (b.pools.length:Int):=by omega
  have cR:=wi k (by omega);have iP:=hv.out p (Xl hx);replace hI:=Xj hI;refine am ?_;refine bo ae ak p.leases (fun j=>((p.leases.take j).any fun l=>l.kind==1&&l.owner==id)=false) (fun j=>[(6,.d (.v (.int .i64 j))),(5,.d (.v (.int .i64 k))),(4,.d (.v (.bool false))),(2,.ptr 0 0),(1,.d (.v (.int .i64 id)))]) (fun _=>[.box 24 ((aS b).map .d)]) rfl wf ?_ ?_
  ·intro j l hy hj hJ C2 jI;have ip:(j:Int) < (p.leases.length:Int):=by omega
   have kj:=wi j (by omega);replace hJ:=Xj hJ;cases hp:(l.kind==1&&l.owner==id)with
   |true=>
    have hr:R=true:=by rw[hR.out];exact uG hx (uG hy hp)
    rw[hr];rw[Xy]at hp;obtain⟨p1,p2⟩:=hp;exact bc
   |false=>
    have Bm:=Xj (rF hy hJ.out hp);cases p1:l.kind==1 with
    |false=>
     replace hp:=Xj hp;refine am ?_;exact jI _ _ Bm.out wf
    |true=>
     rw[p1,Yr]at hp;refine am ?_;exact jI _ _ Bm.out wf
  ·intro hJ C2;rw[Xt]at hJ;have lU:=Xj (rF hx hI.out hJ);replace hJ:=Xj hJ;refine am ?_;exact hC _ _ lU.out wf
 ·intro hI C;rw[Xt]at hI;have hr:R=false:=by rw[hR.out,hI]
  rw[hr];replace hI:=Xj hI;exact bc
theorem Mi {α:Type}(p:α→Bool)(l:List α):(cz p l < 0∧l.find? p=none)∨∃(k:Nat) (x:α),cz p l=k∧l[k]? =some x∧l.find? p=some x:=by
 unfold cz;cases h:l.findIdx? p with
 |none=>
  left;exact⟨by simp,Yq.2 fun x hx=>by simpa using Yn.1 h x hx⟩
 |some k=>
  right;obtain⟨hk,h1,h2⟩:=XI.1 h;refine⟨k,_,rfl,Xk hk,?_⟩;rw[List.find?_eq_some_iff_getElem];exact⟨h1,k,hk,rfl,fun j hj=>by simpa using h2 j hj⟩
theorem tX (s:Ste)(hz:∀p∈s.book.pools,p.leases.length≤3518437208882)(nM:uj s.net):af prog 12 [.agg (fw s)] (.v (.int .i64 (ig s))):=by
 have hb:=gF s.book hz;have hn:=jD s.net nM;rw[I2];by_cases h1:aZ s.book=0
 ·rw[if_neg (by simpa using h1)];rw[h1]at hb;by_cases h2:cN s.net=0
  ·rw[if_neg (by simpa using h2)];rw[h2]at hn;have zR:=dI h1;have cg:=gU.1 h2;have h8:=zR.n8;have fB:=Xj zR.l32;have n6:=cg.n6;have R3:∀v∈s.net.vpcs,v.ranges.length≤4:=fun v hv=>(aY (cg.vp v hv)).n4;replace R3:=Xj R3;obtain⟨R,hR⟩:∃R,R=if (Mg s&&Fz s)=true then (0:Int)else 1:=⟨_,rfl⟩;rw[←hR];replace hR:=Xj hR;clear h1 h2 zR cg hz nM;refine pj func12 ntmps12 results12 ?_;refine am ?_;refine bo ae ak s.net.vpcs (fun k=>((s.net.vpcs.take k).all fun v=>v.ranges.all (Jt s.book v.id))=true) (fun k=>[(5,.d (.v (.int .i64 k))),(2,.d (.v (.int .i64 0))),(1,.ptr 0 0)]) (fun _=>[.box 30 ((fw s).map .d)]) rfl wf ?_ ?_
   ·intro k v hx hk hI C hC;have dM:(k:Int) < (s.net.vpcs.length:Int):=by omega
    have cR:=wi k (by omega);have h4:=Xj (R3.out v (Xl hx));have lO:=Xj hx;replace hI:=Xj hI;refine am ?_;clear hx;refine bo ae ak v.ranges (fun j=>((v.ranges.take j).all (Jt s.book v.id))=true) (fun j=>[(7,.d (.v (.int .i64 j))),(6,.ptr 1 0),(5,.d (.v (.int .i64 k))),(2,.d (.v (.int .i64 0))),(1,.ptr 0 0)]) (fun _=>[.box 30 ((fw s).map .d),.box 55 ((al v).map .d)]) rfl wf ?_ ?_
    ·intro j r hy hj hJ C2 jI;have ip:(j:Int) < (v.ranges.length:Int):=by omega
     have kj:IntKind.i64.wrap ((j:Int)+1)=((j+1:Nat):Int):=by have:=h4.out;rw[IntKind.wrap_i64];omega
     have nu:=zr s.book r.pool r.at_ (by omega) (fun q hq=>by have:=fB.out q hq;omega);have Nv:=Xj hy;replace hJ:=Xj hJ;have bI:Jt s.book v.id r=false→R=1:=fun e=>by
      rw[hR.out,if_neg];intro h;rw[Xy]at h;have:=XC.1 (XC.1 h.1 v (Xl lO.out)) r (Xl Nv.out);rw[e]at this;cases this
     have gW:Jt s.book v.id r=true→((v.ranges.take (j+1)).all (Jt s.book v.id))=true:=fun e=>by
      rw[ag Nv.out,ZO,hJ.out];simpa using e
     cases tb:gG s.book r.pool r.at_ with
     |none=>
      rw[tb]at nu;have hr:=bI (by unfold Jt;rw[tb]);rw[hr];clear bI gW hr;simp only[oG]at nu;replace tb:=Xj tb;exact bc
     |some l=>
      rw[tb]at nu;simp only[oG]at nu;cases ho:l.owner==v.id with
      |false=>
       have hr:=bI (by unfold Jt;rw[tb];exact ho);rw[hr];have e1:(l.owner !=v.id)=true:=by simpa using ho
       clear bI gW hr;replace tb:=Xj tb;exact bc
      |true=>
       have hg:=Xj (gW (by unfold Jt;rw[tb];exact ho));have e1:(l.owner !=v.id)=false:=by simpa using ho
       clear bI gW;replace tb:=Xj tb;refine am ?_;exact jI _ _ hg.out wf
    ·intro hJ C2;rw[Xt]at hJ;have lU:((s.net.vpcs.take (k+1)).all fun v=>v.ranges.all (Jt s.book v.id))=true:=by
      rw[ag lO.out,ZO,hI.out];simpa using hJ
     replace lU:=Xj lU;replace hJ:=Xj hJ;refine am ?_;exact hC _ _ lU.out wf
   ·intro hI C;rw[Xt]at hI;have hA:Mg s=true:=hI;have aP:R=if Fz s=true then 0 else 1:=by rw[hR.out,hA,Yr]
    replace hI:=Xj hI;replace aP:=Xj aP;replace hA:=Xj hA;refine am ?_;refine bo ae ak s.book.pools (fun k=>((s.book.pools.take k).all fun p=>p.leases.all (I1 s.net.vpcs p.id))=true) (fun k=>[(10,.d (.v (.int .i64 k))),(2,.d (.v (.int .i64 0))),(1,.ptr 0 0)]) (fun _=>[.box 30 ((fw s).map .d)]) rfl wf ?_ ?_
    ·intro k p hx hk hI C hC;have dM:(k:Int) < (s.book.pools.length:Int):=by omega
     have cR:=wi k (by omega);have h4:=Xj (fB.out p (Xl hx));have lO:=Xj hx;replace hI:=Xj hI;refine am ?_;clear hx;refine bo ae ak p.leases (fun j=>((p.leases.take j).all (I1 s.net.vpcs p.id))=true) (fun j=>[(12,.d (.v (.int .i64 j))),(11,.ptr 1 0),(10,.d (.v (.int .i64 k))),(2,.d (.v (.int .i64 0))),(1,.ptr 0 0)]) (fun _=>[.box 30 ((fw s).map .d),.box 62 ((ah p).map .d)]) rfl wf ?_ ?_
     ·intro j l hy hj hJ C2 jI;have ip:(j:Int) < (p.leases.length:Int):=by omega
      have kj:IntKind.i64.wrap ((j:Int)+1)=((j+1:Nat):Int):=by have:=h4.out;rw[IntKind.wrap_i64];omega
      have PR:=gP s.net l.owner (by omega);have Nv:=Xj hy;replace hJ:=Xj hJ;have bI:I1 s.net.vpcs p.id l=false→R=1:=fun e=>by
       rw[aP.out,if_neg];intro h;have:=XC.1 (XC.1 h p (Xl lO.out)) l (Xl Nv.out);rw[e]at this;cases this
      have gW:I1 s.net.vpcs p.id l=true→((p.leases.take (j+1)).all (I1 s.net.vpcs p.id))=true:=fun e=>by
       rw[ag Nv.out,ZO,hJ.out];simpa using e
      cases UG:l.kind==1 with
      |false=>
       have hg:=Xj (gW (by unfold I1;rw[UG];rfl));clear bI gW PR;refine am ?_;exact jI _ _ hg.out wf
      |true=>
       rcases Mi (fun v:Vpc=>v.id==l.owner) s.net.vpcs with⟨h0,hf⟩|⟨i,v,hi,hv,hf⟩
       ·have hg:=Xj (gW (by unfold I1;rw[UG,hf];rfl));have e1:decide (cz (fun v:Vpc=>v.id==l.owner) s.net.vpcs≥0)=false:=by simp;omega
        generalize cz (fun v:Vpc=>v.id==l.owner) s.net.vpcs=ix at*;replace h0:=Xj h0;replace hf:=Xj hf;clear bI gW;refine am ?_;exact jI _ _ hg.out wf
       ·rw[hi]at PR;have UB:=(Xn.1 hv).1;have Ny:(i:Int) < (s.net.vpcs.length:Int):=by omega
        have j4:decide ((i:Int)≥0)=true:=by simp
        have hh:=wN v ⟨l.at_,p.id⟩ (by have:=R3.out v (Xl hv);omega);replace hi:=Xj hi;cases hb:v.ranges.any fun x=>decide (x=(⟨l.at_,p.id⟩:Rng))with
        |true=>
         have hg:=Xj (gW (by unfold I1;rw[UG,hf];exact hb));rw[hb]at hh;replace hb:=Xj hb;replace hf:=Xj hf;clear bI gW;refine am ?_;exact jI _ _ hg.out wf
        |false=>
         have hr:=bI (by unfold I1;rw[UG,hf];exact hb);rw[hb]at hh;replace hb:=Xj hb;replace hf:=Xj hf;clear bI gW;rw[hr];exact bc
     ·intro hJ C2;rw[Xt]at hJ;have lU:((s.book.pools.take (k+1)).all fun p=>p.leases.all (I1 s.net.vpcs p.id))=true:=by
       rw[ag lO.out,ZO,hI.out];simpa using hJ
      replace lU:=Xj lU;replace hJ:=Xj hJ;refine am ?_;exact hC _ _ lU.out wf
    ·intro hI C;rw[Xt]at hI;have hr:R=0:=by rw[aP.out,if_pos (show Fz s=true from hI)]
     rw[hr];replace hI:=Xj hI;exact bc
  ·have e2:(cN s.net !=0)=true:=by simpa using h2
   rw[if_pos h2];generalize cN s.net=X at*;replace h1:=Xj h1;replace h2:=Xj h2;refine pj func12 ntmps12 results12 ?_;exact bc
 ·have e2:(aZ s.book !=0)=true:=by simpa using h1
  rw[if_pos h1];generalize aZ s.book=X at*;replace h1:=Xj h1;refine pj func12 ntmps12 results12 ?_;exact bc
theorem Mk (v:Vpc)(pre post:List Sbn)(s0:Sbn)(hv:v.subs=pre++s0::post)(h4:v.ranges.length≤4)(h6:v.subs.length≤6)(h8:∀s∈v.subs,s.faces.length≤8∧∀f∈s.faces,f.addrs.length≤4):
 MSpec prog 44 [.d (.agg (al v))] [] (.agg [.d (.v (.int .i64 v.id)),.own 2 1,.own 4 v.subs.length]) [.gone,.gone,.row 58 3 1 (ab (v.ranges.map bp)),.gone,.row 71 4 v.subs.length (eU aT pre (ck s0 (.own 6 s0.faces.length)) post),.gone,.row 74 2 s0.faces.length (ab (s0.faces.map cj))]:=by
 replace h8:=Xj h8;have bR:v.subs.length=pre.length+1+post.length:=by rw[hv];simp;omega
 have hL:=Xj hv;have bU:=Xj bR;clear hv bR;refine mj func44 ntmps44 results44 ?_;refine am ?_<;>intros;refine bL ae ak (fun m e h=>(∃k,k≤pre.length∧m=v.subs.length - k∧e=[(4,.d (.v (.int .i64 k))),(3,.ptr 3 0),(2,.ptr 1 0),(1,.ptr 0 0)]∧h=[.box 55 ((al v).map .d),.box 55 [.d (.v (.int .i64 0)),.d (.v (.slice none 0 0)),.d (.v (.slice none 0 0))],.row 58 3 1 (ab (v.ranges.map bp)),.box 55 [.d (.v (.int .i64 v.id)),.own 2 1,.own 4 k],.row 71 4 k (ab ((pre.take k).map aT))])∨
  ∃k j,k=pre.length+1+j∧j≤post.length∧m=v.subs.length - k∧e=[(4,.d (.v (.int .i64 k))),(3,.ptr 3 0),(2,.ptr 1 0),(1,.ptr 0 0)]∧h=[.box 55 ((al v).map .d),.box 55 [.d (.v (.int .i64 0)),.d (.v (.slice none 0 0)),.d (.v (.slice none 0 0))],.row 58 3 1 (ab (v.ranges.map bp)),.box 55 [.d (.v (.int .i64 v.id)),.own 2 1,.own 4 k],.row 71 4 k (eU aT pre (ck s0 (.own 6 s0.faces.length)) (post.take j)),.gone,.row 74 2 s0.faces.length (ab (s0.faces.map cj))]) _ _ _ (.inl ⟨0,XE _,rfl,rfl,rfl⟩) ?_ ?_
 ·refine(au (by simp) 3 55 [.d (.v (.int .i64 v.id)),.own 2 1,.d (.v (.slice none 0 0))] 2 71 4 rfl rfl rfl).trans ?_;exact wf (hb:=cL) (hbh:=cL)
 ·rintro m e h (⟨k,hk,hm,rfl,rfl⟩|⟨k,q,Bg,hj,hm,rfl,rfl⟩) CO th
  ·have dM:(k:Int) < (v.subs.length:Int):=by have:=bU.out;omega
   have cR:=wi k (by omega);have jf:k+1≤100:=by have:=bU.out;omega
   have jc:(Yg k pre).length=k:=by rw[Xq];omega
   have hm:=Xj hm;by_cases lM:k < pre.length
   ·obtain⟨s,hq⟩:∃s,pre[k]? =some s:=⟨_,Xk lM⟩;have hs:v.subs[k]? =some s:=by rw[hL.out,X2 lM];exact hq
    have iO:=h8.out s (Xl hs);replace hs:=Xj hs;replace hq:=Xj hq;have lT:=hs.out;refine am ?_<;>intros;refine bo ae ak s.faces (fun _=>True) (fun j=>[(6,.d (.v (.int .i64 j))),(5,.ptr 5 0),(4,.d (.v (.int .i64 k))),(3,.ptr 3 0),(2,.ptr 1 0),(1,.ptr 0 0)])
     (fun j=>[.box 55 ((al v).map .d),.box 55 [.d (.v (.int .i64 0)),.d (.v (.slice none 0 0)),.d (.v (.slice none 0 0))],.row 58 3 1 (ab (v.ranges.map bp)),.box 55 [.d (.v (.int .i64 v.id)),.own 2 1,.own 4 k],.row 71 4 k (ab ((pre.take k).map aT)),.box 71 [.d (.v (.int .i64 s.id)),.d (.v (.int .i64 s.at_.at_)),.d (.v (.int .i64 s.at_.len)),.own 6 j],.row 74 2 j (ab ((s.faces.take j).map cj))]) trivial ?_ ?_ ?_
    ·refine(au (by simp) 5 71 [.d (.v (.int .i64 s.id)),.d (.v (.int .i64 s.at_.at_)),.d (.v (.int .i64 s.at_.len)),.d (.v (.slice none 0 0))] 3 74 2 rfl rfl rfl).trans ?_;exact wf (hb:=cL) (hbh:=cL)
    ·intro j f hf hj _ C hC;have ip:(j:Int) < (s.faces.length:Int):=by omega
     have kj:=wi j (by omega);have gY:=iO.2 f (Xl hf);have jm:j+1≤100:=by omega
     have pm:(Yg j s.faces).length=j:=by rw[Xq];omega
     replace hf:=Xj hf;have zQ:=hf.out;refine am ?_<;>intros;refine hC _ _ trivial ((ap 8 1 3 1 (f.addrs.map cy) rfl).trans ?_);simp only[iD,fz,gy,gj,g8,f9,aR,bS,bW,Xm,Xv,XM,XL,reduceIte,and_true,true_and,and_self,and_false,false_and,XG,XW,reduceCtorEq,cY];exact wf (hh:=(by rw[ag hf.out,Xo,Xm,Xv,←aI];rfl)) (hb:=cL) (hbh:=cL)
    ·intro _ C;refine am ?_<;>intros;refine th _ _ _ _ _ ?_ (.inl ⟨k+1,lM,rfl,rfl,rfl⟩) ((ap 6 s.faces.length 74 2 (s.faces.map cj) rfl).trans ?_)
     ·have:=hm.out;have:=bU.out;omega
     simp only[iD,fz,gy,gj,g8,f9,aR,bS,bW,Xm,Xv,XM,XL,reduceIte,and_true,true_and,and_self,and_false,false_and,XG,XW,reduceCtorEq];exact wf (hh:=(by rw[ag hq.out,Xo,Xm,Xv,←aI];rfl)) (hb:=cL) (hbh:=cL)
   ·obtain rfl:k=pre.length:=by omega
    have hs:v.subs[pre.length]? =some s0:=by rw[hL.out,XH (XB _),YG];rfl
    have iO:=h8.out s0 (Xl hs);replace hs:=Xj hs;have lT:=hs.out;obtain⟨k,i7⟩:∃k,k=pre.length:=⟨_,rfl⟩;obtain⟨s,qs⟩:∃s,s=s0:=⟨_,rfl⟩;rw[←qs]at iO lT th ⊢;rw[←i7]at lT dM cR jf jc th ⊢;rw[i7,Xt]at jc;replace qs:=Xj qs;replace i7:=Xj i7;refine am ?_<;>intros;refine bo ae ak s.faces (fun _=>True) (fun j=>[(6,.d (.v (.int .i64 j))),(5,.ptr 5 0),(4,.d (.v (.int .i64 k))),(3,.ptr 3 0),(2,.ptr 1 0),(1,.ptr 0 0)])
     (fun j=>[.box 55 ((al v).map .d),.box 55 [.d (.v (.int .i64 0)),.d (.v (.slice none 0 0)),.d (.v (.slice none 0 0))],.row 58 3 1 (ab (v.ranges.map bp)),.box 55 [.d (.v (.int .i64 v.id)),.own 2 1,.own 4 k],.row 71 4 k (ab ((pre.take k).map aT)),.box 71 [.d (.v (.int .i64 s.id)),.d (.v (.int .i64 s.at_.at_)),.d (.v (.int .i64 s.at_.len)),.own 6 j],.row 74 2 j (ab ((s.faces.take j).map cj))]) trivial ?_ ?_ ?_
    ·refine(au (by simp) 5 71 [.d (.v (.int .i64 s.id)),.d (.v (.int .i64 s.at_.at_)),.d (.v (.int .i64 s.at_.len)),.d (.v (.slice none 0 0))] 3 74 2 rfl rfl rfl).trans ?_;exact wf (hb:=cL) (hbh:=cL)
    ·intro j f hf hj _ C hC;have ip:(j:Int) < (s.faces.length:Int):=by omega
     have kj:=wi j (by omega);have gY:=iO.2 f (Xl hf);have jm:j+1≤100:=by omega
     have pm:(Yg j s.faces).length=j:=by rw[Xq];omega
     replace hf:=Xj hf;have zQ:=hf.out;refine am ?_<;>intros;refine hC _ _ trivial ((ap 8 1 3 1 (f.addrs.map cy) rfl).trans ?_);simp only[iD,fz,gy,gj,g8,f9,aR,bS,bW,Xm,Xv,XM,XL,reduceIte,and_true,true_and,and_self,and_false,false_and,XG,XW,reduceCtorEq,cY];exact wf (hh:=(by rw[ag hf.out,Xo,Xm,Xv,←aI];rfl)) (hb:=cL) (hbh:=cL)
    ·intro _ C;have R7:(Yg k pre).length=k:=by rw[i7.out,Xt]
     refine am ?_<;>intros;refine th _ _ _ _ _ ?_ (.inr ⟨k+1,0,by rw[i7.out],XE _,rfl,rfl,rfl⟩) ((aL 5 (by simp)).trans ?_)
     ·have:=hm.out;have:=bU.out;have:=i7.out;omega
     exact wf (hh:=(by rw[i7.out,Xt];rfl)) (hb:=cL) (hbh:=cL)
  ·have hm:=Xj hm;have rY:=Xj Bg;have jf:pre.length+1+q+1≤100:=by have:=bU.out;omega
   have jc:(Yg q post).length=q:=by rw[Xq];omega
   have uI:k≤v.subs.length:=by have:=bU.out;omega
   by_cases xu:q < post.length
   ·obtain⟨s,hq⟩:∃s,post[q]? =some s:=⟨_,Xk xu⟩;have hs:v.subs[k]? =some s:=by
     rw[hL.out,XH (by omega),show k - pre.length=q+1 by omega,Yx];exact hq
    have iO:=h8.out s (Xl hs);have dM:(k:Int) < (v.subs.length:Int):=by have:=bU.out;omega
    have cR:=wi k (by omega);replace hq:=Xj hq;replace hs:=Xj hs;have lT:=hs.out;clear Bg;refine am ?_<;>intros;refine bo ae ak s.faces (fun _=>True) (fun j=>[(6,.d (.v (.int .i64 j))),(5,.ptr 7 0),(4,.d (.v (.int .i64 k))),(3,.ptr 3 0),(2,.ptr 1 0),(1,.ptr 0 0)])
     (fun j=>[.box 55 ((al v).map .d),.box 55 [.d (.v (.int .i64 0)),.d (.v (.slice none 0 0)),.d (.v (.slice none 0 0))],.row 58 3 1 (ab (v.ranges.map bp)),.box 55 [.d (.v (.int .i64 v.id)),.own 2 1,.own 4 k],.row 71 4 k (eU aT pre (ck s0 (.own 6 s0.faces.length)) (post.take q)),.gone,.row 74 2 s0.faces.length (ab (s0.faces.map cj)),.box 71 [.d (.v (.int .i64 s.id)),.d (.v (.int .i64 s.at_.at_)),.d (.v (.int .i64 s.at_.len)),.own 8 j],.row 74 2 j (ab ((s.faces.take j).map cj))]) trivial ?_ ?_ ?_
    ·refine(au (by simp) 7 71 [.d (.v (.int .i64 s.id)),.d (.v (.int .i64 s.at_.at_)),.d (.v (.int .i64 s.at_.len)),.d (.v (.slice none 0 0))] 3 74 2 rfl rfl rfl).trans ?_;exact wf (hb:=cL) (hbh:=cL)
    ·intro j f hf hj _ C hC;have ip:(j:Int) < (s.faces.length:Int):=by omega
     have kj:=wi j (by omega);have gY:=iO.2 f (Xl hf);have jm:j+1≤100:=by omega
     have pm:(Yg j s.faces).length=j:=by rw[Xq];omega
     replace hf:=Xj hf;have zQ:=hf.out;refine am ?_<;>intros;refine hC _ _ trivial ((ap 10 1 3 1 (f.addrs.map cy) rfl).trans ?_);simp only[iD,fz,gy,gj,g8,f9,aR,bS,bW,Xm,Xv,XM,XL,reduceIte,and_true,true_and,and_self,and_false,false_and,XG,XW,reduceCtorEq,cY];exact wf (hh:=(by rw[ag hf.out,Xo,Xm,Xv,←aI];rfl)) (hb:=cL) (hbh:=cL)
    ·intro _ C;refine am ?_<;>intros;refine th _ _ _ _ _ ?_ (.inr ⟨k+1,q+1,by have:=rY.out;omega,xu,rfl,rfl,rfl⟩) ((ap 8 s.faces.length 74 2 (s.faces.map cj) rfl).trans ?_)
     ·have:=hm.out;have:=bU.out;have:=rY.out;omega
     simp only[iD,fz,gy,gj,g8,f9,aR,bS,bW,Xm,Xv,XM,XL,reduceIte,and_true,true_and,and_self,and_false,false_and,XG,XW,reduceCtorEq,cY,ck];exact wf (hh:=(by rw[ag hq.out,←kJ];rfl)) (hb:=cL) (hbh:=cL)
   ·obtain rfl:q=post.length:=by omega
    obtain rfl:k=v.subs.length:=by have:=bU.out;omega
    clear Bg;refine am ?_<;>intros;(try rw[Xt])
    refine(aL 0 (by simp)).trans ?_;refine(aL 1 (by simp[bw])).trans ?_;exact(aL 3 (by simp[bw])).trans (bn rfl rfl)
theorem uH (v:Vpc)(id:Int)(hl:v.subs.length≤1000000000):af prog 225 [.agg (al v),.v (.int .i64 id)] (.v (.int .i64 (cz (fun s=>s.id==id) v.subs))):=by
 refine pj func225 ntmps225 results225 ?_;refine am ?_<;>intros;refine bo ae ak v.subs (fun k=>(v.subs.take k).all (fun s=>!(s.id==id))=true) (fun k=>[(5,.d (.v (.int .i64 k))),(4,.d (.v (.int .i64 0))),(2,.ptr 0 0),(1,.d (.v (.int .i64 id)))]) (fun _=>[.box 55 ((al v).map .d)]) rfl (wf) ?_ ?_
 ·intro k p hp hk hI C hC;have dM:(k:Int) < (v.subs.length:Int):=by omega
  have cR:=wi k (by omega);replace hI:=Xj hI;refine xo ?_ ?_<;>intros
  ·rename_i h1;exact re (vK hp (by simpa using h1) hI.out).symm
  ·rename_i h1;exact hC _ _ (d9 hp hI.out (by simpa using h1)) (wf)
 ·intro hI C;replace hI:=Xj hI;refine am ?_<;>intros;exact re (Au hI.out).symm
theorem wP (s:Sbn)(id:Int)(hl:s.faces.length≤1000000000):af prog 227 [.agg (aT s),.v (.int .i64 id)] (.v (.int .i64 (cz (fun f=>f.id==id) s.faces))):=by
 refine pj func227 ntmps227 results227 ?_;refine am ?_<;>intros;refine bo ae ak s.faces (fun k=>(s.faces.take k).all (fun f=>!(f.id==id))=true) (fun k=>[(5,.d (.v (.int .i64 k))),(4,.d (.v (.int .i64 0))),(2,.ptr 0 0),(1,.d (.v (.int .i64 id)))]) (fun _=>[.box 71 ((aT s).map .d)]) rfl (wf) ?_ ?_
 ·intro k p hp hk hI C hC;have dM:(k:Int) < (s.faces.length:Int):=by omega
  have cR:=wi k (by omega);replace hI:=Xj hI;refine xo ?_ ?_<;>intros
  ·rename_i h1;exact re (vK hp (by simpa using h1) hI.out).symm
  ·rename_i h1;exact hC _ _ (d9 hp hI.out (by simpa using h1)) (wf)
 ·intro hI C;replace hI:=Xj hI;refine am ?_<;>intros;exact re (Au hI.out).symm
theorem zH {used:List Int}{p:Pfx}{n:Nat}{a:Int}(h:iW p a=false):fK used p n a=none:=by
 cases n with
 |zero=>rfl
 |succ n=>rw[fK,if_neg (by simp[h])]
theorem rG {p:Pfx}{a:Int}(hr:p.right=true):iW p a=true↔p.at_ < a∧a < p.hi - 1:=by
 unfold iW;have hb:=p.hi_bd hr;have he:p.hi=p.at_+eG p.len:=rfl;simp only[Xy,decide_eq_true_eq,oq,mo];constructor
 ·rintro⟨-,h1,h2⟩;omega
 ·rintro⟨h1,h2⟩;exact⟨⟨hr,by omega,by omega⟩,by omega,by omega⟩
theorem DH (s:Sbn)(h8:s.faces.length≤8)(h4:∀f∈s.faces,f.addrs.length≤4)(hr:s.at_.right=true):af prog 226 [.agg (aT s)] (.v (.int .i64 ((eD s).getD (-1)))):=by
 have nu:af prog 190 [.agg (aN s.at_)] (.v (.int .i64 (s.at_.hi - 1))):=KB s.at_ (by rw[←Pfx.right];exact hr);have RM:=s.at_.hi_bd hr;obtain⟨r1,r2,r3,r4,-⟩:=s.at_.bd hr;obtain⟨R,hR⟩:∃R,R=(eD s).getD (-1):=⟨_,rfl⟩;rw[←hR];replace hR:=Xj hR;refine pj func226 ntmps226 results226 ?_;refine am ?_<;>intros;refine bL ae ak (fun m e h=>∃(i:Nat) (a:Int),a=s.at_.at_+i∧a≤s.at_.hi∧(0 < i→eD s=fK (s.faces.flatMap (·.addrs)) s.at_ (65537 - i) a)∧m=65537 - i∧
  e=[(3,.d (.v (.int .i64 a))),(2,.d (.v (.int .i64 0))),(1,.ptr 0 0)]∧h=[.box 71 ((aT s).map .d)]) 65537 _ _ ⟨0,s.at_.at_,by simp,by omega,fun h=>absurd h (Nat.lt_irrefl _),rfl,rfl,rfl⟩ (wf) ?_
 rintro m e h ⟨i,a,ha,hah,hle,hm,rfl,rfl⟩ C hC;have UB:i≤65536:=by omega
 replace hm:=Xj hm;replace hle:=Xj hle;replace ha:=Xj ha;by_cases pn:a≤s.at_.hi - 1
 ·have Qn:decide (a≤s.at_.hi - 1)=true:=by simpa using pn
  have A7:IntKind.i64.wrap (a+1)=a+1:=by rw[IntKind.wrap_i64];have:=ha.out;omega
  have dE:=Cv s a;obtain⟨Z,hZ⟩:∃Z,Z=s.at_.hi - 1:=⟨_,rfl⟩;rw[←hZ]at Qn nu;replace hZ:=Xj hZ;replace pn:=Xj pn;replace hah:=Xj hah;replace RM:=Xj RM;obtain⟨B,hB⟩:∃B,B=iW s.at_ a:=⟨_,rfl⟩;rw[←hB]at dE;replace hB:=Xj hB;refine am ?_<;>intros;refine bL ae ak (fun m e h=>∃(k:Nat) (F:Bool),k≤s.faces.length∧F=(B&&!((s.faces.take k).flatMap (·.addrs)).contains a)∧m=s.faces.length - k∧
   e=[(5,.d (.v (.int .i64 k))),(4,.d (.v (.bool F))),(3,.d (.v (.int .i64 a))),(2,.d (.v (.int .i64 0))),(1,.ptr 0 0)]∧h=[.box 71 ((aT s).map .d)]) _ _ _ ⟨0,B,XE _,by simp,rfl,rfl,rfl⟩ (wf) ?_
  rintro m2 e h ⟨k,F,hk,hF,gZ,rfl,rfl⟩ C2 jI;replace gZ:=Xj gZ;replace hF:=Xj hF;by_cases hlt:k < s.faces.length
  ·have dM:(k:Int) < (s.faces.length:Int):=by omega
   have cR:=wi k (by omega);obtain⟨f,hf⟩:∃f,s.faces[k]? =some f:=⟨_,Xk hlt⟩;have gY:=h4 f (Xl hf);refine am ?_<;>intros;refine bL ae ak (fun m e h=>∃(j:Nat) (F2:Bool),j≤f.addrs.length∧F2=(B&&!((s.faces.take k).flatMap (·.addrs)++f.addrs.take j).contains a)∧m=f.addrs.length - j∧
    e=[(6,.d (.v (.int .i64 j))),(5,.d (.v (.int .i64 k))),(4,.d (.v (.bool F2))),(3,.d (.v (.int .i64 a))),(2,.d (.v (.int .i64 0))),(1,.ptr 0 0)]∧h=[.box 71 ((aT s).map .d)]) _ _ _ ⟨0,F,XE _,by rw[hF.out];simp,rfl,rfl,rfl⟩ (wf) ?_
   rintro m3 e h ⟨j,F2,hj,ND,UH,rfl,rfl⟩ C3 Qj;replace UH:=Xj UH;replace ND:=Xj ND;by_cases pm:j < f.addrs.length
   ·have ip:(j:Int) < (f.addrs.length:Int):=by omega
    have kj:=wi j (by omega);obtain⟨x,hx⟩:∃x,f.addrs[j]? =some x:=⟨_,Xk pm⟩;have dS:(B&&!((s.faces.take k).flatMap (·.addrs)++f.addrs.take (j+1)).contains a)=(F2&&(x !=a)):=by
     rw[ND.out,ag hx,←X4];generalize (s.faces.take k).flatMap (·.addrs)++f.addrs.take j=L;cases B
     ·rfl
     ·rw[Yr,Yr,Yi];simp[ZL,X3];intro _;exact⟨fun h e=>h e.symm,fun h e=>h e.symm⟩
    replace dS:=Xj dS;cases F2 with
    |true=>
     refine am ?_<;>intros;refine Qj _ _ _ _ _ ?_ ⟨j+1,(x !=a),pm,by rw[dS.out];rfl,rfl,rfl,rfl⟩ (wf);have:=UH.out;omega
    |false=>
     refine am ?_<;>intros;refine Qj _ _ _ _ _ ?_ ⟨j+1,false,pm,by rw[dS.out];rfl,rfl,rfl,rfl⟩ (wf);have:=UH.out;omega
   ·obtain rfl:j=f.addrs.length:=by omega
    have dS:F2=(B&&!((s.faces.take (k+1)).flatMap (·.addrs)).contains a):=by
     rw[ND.out,Xt,ag hf,Zs];simp
    replace dS:=Xj dS;refine am ?_<;>intros;refine jI _ _ _ _ _ ?_ ⟨k+1,F2,hlt,dS.out,rfl,rfl,rfl⟩ (wf);have:=gZ.out;omega
  ·obtain rfl:k=s.faces.length:=by omega
   have ND:=hF.out;rw[Xt]at ND;replace ND:=Xj ND;clear hF;have UI:∀n,fK (s.faces.flatMap (·.addrs)) s.at_ (n+1) a=if B=true then (if a∈s.faces.flatMap (·.addrs)then fK (s.faces.flatMap (·.addrs)) s.at_ n (a+1)else some a)else none:=fun n=>by rw[fK,←hB.out]
   have Sp:65537 - i=(65536 - i)+1:=by omega
   replace UI:=Xj UI;cases F with
   |true=>
    have hb:R=a:=by
     have h1:=ND.out;have Qq:B=true:=by cases B<;>simp at h1 ⊢
     have hau:a∉s.faces.flatMap (·.addrs):=by
      rw[Qq,Yr]at h1;intro hm;rw[ZL.2 hm]at h1;simp at h1
     have j4:0 < i:=by
      have h2:=(rG hr).1 (by rw[←hB.out];exact Qq);have:=ha.out;omega
     rw[hR.out,hle.out j4,Sp,UI.out,if_pos Qq,if_neg hau];rfl
    rw[hb];replace hb:=Xj hb;exact bc;all_goals exact ai.refl _
   |false=>
    have Ql:eD s=fK (s.faces.flatMap (·.addrs)) s.at_ (65537 - (i+1)) (a+1):=by
     rw[show 65537 - (i+1)=65536 - i by omega];have h1:=ND.out;by_cases j4:0 < i
     ·rw[hle.out j4,Sp,UI.out];by_cases Qq:B=true
      ·rw[if_pos Qq,if_pos];rw[Qq,Yr]at h1;rw[←ZL];revert h1;cases(s.faces.flatMap (·.addrs)).contains a<;>simp
      ·rw[if_neg Qq];have h2:iW s.at_ (a+1)=false:=by
        rw[YE,ne_eq,rG hr];intro h3;have h4:iW s.at_ a=true:=(rG hr).2 ⟨by have:=ha.out;omega,by omega⟩;rw[←hB.out]at h4;exact Qq h4
       rw[zH h2]
     ·obtain rfl:i=0:=by omega
      have:=ha.out;rw[show a+1=s.at_.at_+1 by omega];rfl
    replace Ql:=Xj Ql;refine am ?_<;>intros;refine hC _ _ _ _ _ ?_ ⟨i+1,a+1,by rw[ha.out];omega,by have:=pn.out;omega,fun _=>Ql.out,rfl,rfl,rfl⟩ (wf);have:=hm.out;omega
 ·have Qn:decide (a≤s.at_.hi - 1)=false:=by simpa using pn
  have hb:R= -1:=by
   have h2:iW s.at_ a=false:=by
    rw[YE,ne_eq,rG hr];omega
   rw[hR.out,hle.out (by have:=ha.out;omega),zH h2];rfl
  rw[hb];replace hb:=Xj hb;replace pn:=Xj pn;exact bc;all_goals exact ai.refl _
theorem wQ {u:List Int}{p:Pfx}{a:Int}:∀{n:Nat}{b:Int},fK u p n b=some a→iW p a=true
 |0,_,h=>by simp[fK]at h
 |n+1,b,h=>by
  rw[fK]at h;split at h
  ·rename_i hb;split at h
   ·exact wQ h
   ·rw[←XX.inj h];exact hb
  ·cases h
theorem I4 (v:Vpc)(sub id:Int)(hl:v.subs.length≤9223372036854775807)(hf:∀s∈v.subs,s.faces.length≤9223372036854775807):af prog 173 [.agg (al v),.v (.int .i64 sub),.v (.int .i64 id)] (.tup [.agg (al (gE v sub id).1),.v (.int .i64 (gE v sub id).2.1),.v (.int .i64 (gE v sub id).2.2)]):=by
 obtain⟨R,hR⟩:∃R,R=gE v sub id:=⟨_,rfl⟩;rw[←hR];replace hR:=Xj hR;have a9:=gC v hl hf;clear hl hf;by_cases hc:bN v=0
 ·have hk:=aY hc;have Jo:=hk.n4;have Ej:=hk.n6;have db:=uH v sub (by omega);unfold cz at db
  have aP:=hR.out;unfold gE at aP;rw[if_neg (by simpa using hc)]at aP;rw[hc]at a9;clear hR hc;have ur:decide ((-1:Int) < 0)=true:=rfl;cases hf:v.subs.findIdx? (fun s=>s.id==sub)with
  |none=>
   rw[hf]at db aP;simp only at db aP;rw[aP];replace aP:=Xj aP;clear hk hf;refine pj func173 ntmps173 results173 ?_;refine am ?_<;>intros;all_goals exact dg
  |some i=>
   obtain⟨pre,s,post,hv,iP,-,hs⟩:=fL hf;have lN:=Xl hs;have iO:=hk.n8 s lN;have gp:=Mk v pre post s hv hk.n4 hk.n6 hk.n8;have Wi:=o7 hk lN;have hle:=DH s iO.1 iO.2 Wi.1;have hw:af prog 75 [.v (.int .i64 id),.v (.int .i64 1),.v (.int .i64 65536)] (.v (.bool (cI id))):=f7 _ _ _;have j8:=wP s id (by omega);have j4:decide ((i:Int) < 0)=false:=by simp
   have ph:v.subs.length=pre.length+1+post.length:=by rw[hv];simp;omega
   rw[hf]at db aP;simp only[hs]at db aP;have dS:=Xj Wi.2.2.1;clear hk hf Wi;have UJ:=fO (fun f:Fce=>f.id==id) s.faces;obtain⟨J,hJ⟩:∃J,J=cz (fun f:Fce=>f.id==id) s.faces:=⟨_,rfl⟩;rw[←hJ]at j8 UJ;clear hJ;unfold kC at aP;by_cases bI:cI id=false∨(s.faces.any fun f=>f.id==id)=true∨s.faces.length=8∨(eD s).isSome=false
   ·replace hv:=Xj hv;clear gp iP ph;cases b1:cI id with
    |false=>
     rw[b1]at aP hw;have hr:R=(Vpc.zero,0,3):=by rw[aP];rfl
     rw[hr];replace hr:=Xj hr;clear aP bI;refine pj func173 ntmps173 results173 ?_;refine am ?_<;>intros;all_goals exact dg
    |true=>
    rw[b1]at aP hw;cases b2:s.faces.any fun f=>f.id==id with
    |true=>
     rw[b2]at aP UJ;have hr:R=(Vpc.zero,0,6):=by rw[aP];simp
     rw[hr];replace hr:=Xj hr;clear aP bI;refine pj func173 ntmps173 results173 ?_;refine am ?_<;>intros;all_goals exact dg
    |false=>
    rw[b2]at aP UJ;by_cases b3:s.faces.length=8
    ·have hr:R=(Vpc.zero,0,2):=by rw[aP];simp[b3]
     have hd:decide ((s.faces.length:Int)≥8)=true:=by simp;omega
     rw[hr];replace hr:=Xj hr;replace b3:=Xj b3;clear aP bI;refine pj func173 ntmps173 results173 ?_;refine am ?_<;>intros;all_goals exact dg
    ·have hd:decide ((s.faces.length:Int)≥8)=false:=by simp;omega
     have b4:eD s=none:=by
      rcases bI with h|h|h|h
      ·rw[b1]at h;cases h
      ·rw[b2]at h;cases h
      ·exact absurd h b3
      ·simpa using h
     have hr:R=(Vpc.zero,0,8):=by rw[aP];simp[b3,b4]
     rw[b4,Option.getD_none]at hle;have ur:decide ((-1:Int) < 0)=true:=rfl;rw[hr];replace hr:=Xj hr;clear aP bI b4;refine pj func173 ntmps173 results173 ?_;refine am ?_<;>intros;all_goals exact dg
   ·obtain⟨b1,bI⟩:=not_or.1 bI;obtain⟨b2,bI⟩:=not_or.1 bI;obtain⟨b3,b4⟩:=not_or.1 bI;simp only[Bool.not_eq_false,ZI]at b1 b2 b4;obtain⟨a,ha⟩:=Zf.1 b4;have Wj:0≤a:=by
     have h1:=AH (wQ (show fK _ _ _ _=some a from ha));obtain⟨-,-,r3,-,-⟩:=s.at_.bd h1.1;omega
    rw[b1]at hw;rw[b2]at UJ;rw[ha,YI]at hle;have ha0:decide (a < 0)=false:=by simpa using Wj
    have hd:decide ((s.faces.length:Int)≥8)=false:=by simp;omega
    have jf:(s.faces.length+1)*32≤140737488355328:=by omega
    have fM:R=({v with subs:=pre++{s with faces:=di (·.id) ⟨id,[a]⟩ s.faces}::post},a,0):=by
     rw[aP,if_neg (by simp[b1,b2,b3,ha]),ha,YI];rw[hv,←iP,Yu _ _ (XB _),YG,Xu]
    clear aP;replace hv:=Xj hv;replace fM:=Xj fM;replace b2:=Xj b2;clear b4;have Xh:IntKind.i64.wrap (((s.faces.length+1:Nat):Int) - 1)=(s.faces.length:Int):=by rw[IntKind.wrap_i64];omega
    subst iP;refine pj func173 ntmps173 results173 ?_;have z1z:=@ck.eq_1;have z2z:=Ln.mk (ls:=[]) (gp);refine am ?_<;>intros;clear a9 db hle hw j8 gp;have Sh:∀f∈s.faces,f.id≠id:=fun f hf he=>by
     have:=Yh.1 b2.out f hf;simp at this;exact this he
    replace Sh:=Xj Sh;refine bL ae ak (fun m e h=>∃(q:Nat) (out:List Fce),AR (fun f:Fce=>f.id) ⟨id,[a]⟩ s.faces q out∧out.length=s.faces.length+1∧m=q∧e=[(14,.d (.v (.int .i64 q))),(13,.rp 6 (pre.length+1+post.length) 4 pre.length 0),(12,.ptr 9 0),(11,.d (.v (.int .i64 a))),(6,.ptr 1 0)]∧h=[.box 55 ((al v).map .d),.box 55 [.d (.v (.int .i64 0)),.d (.v (.slice none 0 0)),.d (.v (.slice none 0 0))],.gone,.gone,.row 58 3 1 (ab (v.ranges.map bp)),.gone,.row 71 4 (pre.length+1+post.length) (eU aT pre (ck s (.own 8 (s.faces.length+1))) post),.gone,.row 74 2 (s.faces.length+1) (ab (out.map cj)),.box 55 [.d (.v (.int .i64 v.id)),.own 4 1,.own 6 (pre.length+1+post.length)]]) _ _ _ ⟨s.faces.length,s.faces++[⟨id,[a]⟩],L7,by simp,rfl,rfl,rfl⟩ (wf (hh:=(by rw[Xo];rfl)) (hb:=cL) (hbh:=cL)) ?_;rintro m e h ⟨q,out,ua,nQ,hm,rfl,rfl⟩ C hC;have s6:=ua.1;have hx:=L8 ua;replace ua:=Xj ua;replace hm:=Xj hm;by_cases h0:0 < q
    ·have Sf:decide ((q:Int)>0)=true:=by simp;omega
     obtain⟨y,hy⟩:∃y,s.faces[q - 1]? =some y:=⟨_,Xk (by omega)⟩;have Nv:=L9 ua.out h0 hy;have A9:IntKind.i64.wrap ((q:Int) - 1)=((q - 1:Nat):Int):=by rw[IntKind.wrap_i64];omega
     have pu:q < out.length:=by omega
     have Xi:q - 1 < out.length:=by omega
     replace nQ:=Xj nQ;replace h0:=Xj h0;replace hy:=Xj hy;cases b5:decide (y.id>id)with
     |true=>
      have jm:=Ma ua.out h0.out hy.out (of_decide_eq_true b5);replace jm:=Xj jm;have Nb:∀X:List PV,((ab (out.map cj)).set (q - 1) X)[q]? =some [.d (.v (.int .i64 id)),.d (.sl 1 [cy a])]:=fun X=>by
       rw[Z7 (by have:=h0.out;omega),gM,Xz,hx];rfl
      have z1z:=@ck.eq_1;refine am ?_<;>intros;refine hC _ _ _ _ _ ?_ ⟨q - 1,(out.set (q - 1) ⟨id,[a]⟩).set q y,jm.out,by rw[YV,YV];exact nQ.out,rfl,rfl,rfl⟩ (wf (hh:=(by simp only[List.map_set,ab];rfl)) (hb:=cL) (hbh:=cL));have:=hm.out;have:=h0.out;omega
     |false=>
      have he:=zC ua.out dS.out (fun z _ hz=>by
       rw[hy.out]at hz;rw[←XX.inj hz];have h1:=Sh.out y (Xl hy.out);have h2:=of_decide_eq_false b5;show y.id < id;omega)
      rw[←he]at fM;have j5:=fM.out;rw[j5];replace j5:=Xj j5;replace he:=Xj he;have z1z:=@ck.eq_1;refine am ?_<;>intros;all_goals(simp only[al,aT,Xo,Xm];exact dg)
    ·have Sf:decide ((q:Int)>0)=false:=by simp;omega
     have he:=zC ua.out dS.out (fun z h _=>absurd h h0);rw[←he]at fM;have j5:=fM.out;rw[j5];replace j5:=Xj j5;replace he:=Xj he;replace h0:=Xj h0;have pu:q < out.length:=by omega
     replace nQ:=Xj nQ;have z1z:=@ck.eq_1;refine am ?_<;>intros;all_goals(simp only[al,aT,Xo,Xm];exact dg)
 ·have h1:(bN v !=0)=true:=by simpa using hc
  have hr:R=(Vpc.zero,0,bN v):=by rw[hR.out];unfold gE;rw[if_pos hc]
  rw[hr];replace hr:=Xj hr;clear hR;refine pj func173 ntmps173 results173 ?_;refine am ?_<;>intros;exact dg
theorem Ro (v:Vpc)(pre post:List Sbn)(s0:Sbn)(preF postF:List Fce)(f0:Fce)(hv:v.subs=pre++s0::post)(yp:s0.faces=preF++f0::postF)(h4:v.ranges.length≤4)(h6:v.subs.length≤6)(h8:∀s∈v.subs,s.faces.length≤8∧∀f∈s.faces,f.addrs.length≤4):
 MSpec prog 44 [.d (.agg (al v))] [] (.agg [.d (.v (.int .i64 v.id)),.own 2 1,.own 4 v.subs.length]) [.gone,.gone,.row 58 3 1 (ab (v.ranges.map bp)),.gone,.row 71 4 v.subs.length (eU aT pre (ck s0 (.own 6 s0.faces.length)) post),.gone,.row 74 2 s0.faces.length (eU cj preF (d8 f0 (.own 8 1)) postF),.gone,.row 3 1 1 (ab (f0.addrs.map cy))]:=by
 replace h8:=Xj h8;have bR:v.subs.length=pre.length+1+post.length:=by rw[hv];simp;omega
 have hL:=Xj hv;have bU:=Xj bR;clear hv bR;have Eb:s0.faces.length=preF.length+1+postF.length:=by rw[yp];simp;omega
 have R8:=Xj yp;have gI:=Xj Eb;clear yp Eb;refine mj func44 ntmps44 results44 ?_;refine am ?_<;>intros;refine bL ae ak (fun m e h=>(∃k,k≤pre.length∧m=v.subs.length - k∧e=[(4,.d (.v (.int .i64 k))),(3,.ptr 3 0),(2,.ptr 1 0),(1,.ptr 0 0)]∧h=[.box 55 ((al v).map .d),.box 55 [.d (.v (.int .i64 0)),.d (.v (.slice none 0 0)),.d (.v (.slice none 0 0))],.row 58 3 1 (ab (v.ranges.map bp)),.box 55 [.d (.v (.int .i64 v.id)),.own 2 1,.own 4 k],.row 71 4 k (ab ((pre.take k).map aT))])∨
  ∃k j,k=pre.length+1+j∧j≤post.length∧m=v.subs.length - k∧e=[(4,.d (.v (.int .i64 k))),(3,.ptr 3 0),(2,.ptr 1 0),(1,.ptr 0 0)]∧h=[.box 55 ((al v).map .d),.box 55 [.d (.v (.int .i64 0)),.d (.v (.slice none 0 0)),.d (.v (.slice none 0 0))],.row 58 3 1 (ab (v.ranges.map bp)),.box 55 [.d (.v (.int .i64 v.id)),.own 2 1,.own 4 k],.row 71 4 k (eU aT pre (ck s0 (.own 6 s0.faces.length)) (post.take j)),.gone,.row 74 2 s0.faces.length (eU cj preF (d8 f0 (.own 8 1)) postF),.gone,.row 3 1 1 (ab (f0.addrs.map cy))]) _ _ _ (.inl ⟨0,XE _,rfl,rfl,rfl⟩) ?_ ?_
 ·refine(au (by simp) 3 55 [.d (.v (.int .i64 v.id)),.own 2 1,.d (.v (.slice none 0 0))] 2 71 4 rfl rfl rfl).trans ?_;exact wf (hb:=cL) (hbh:=cL)
 ·rintro m e h (⟨k,hk,hm,rfl,rfl⟩|⟨k,q,Bg,hj,hm,rfl,rfl⟩) CO th
  ·have dM:(k:Int) < (v.subs.length:Int):=by have:=bU.out;omega
   have cR:=wi k (by omega);have jf:k+1≤100:=by have:=bU.out;omega
   have jc:(Yg k pre).length=k:=by rw[Xq];omega
   have hm:=Xj hm;by_cases lM:k < pre.length
   ·obtain⟨s,hq⟩:∃s,pre[k]? =some s:=⟨_,Xk lM⟩;have hs:v.subs[k]? =some s:=by rw[hL.out,X2 lM];exact hq
    have iO:=h8.out s (Xl hs);replace hs:=Xj hs;replace hq:=Xj hq;have lT:=hs.out;refine am ?_<;>intros;refine bo ae ak s.faces (fun _=>True) (fun j=>[(6,.d (.v (.int .i64 j))),(5,.ptr 5 0),(4,.d (.v (.int .i64 k))),(3,.ptr 3 0),(2,.ptr 1 0),(1,.ptr 0 0)])
     (fun j=>[.box 55 ((al v).map .d),.box 55 [.d (.v (.int .i64 0)),.d (.v (.slice none 0 0)),.d (.v (.slice none 0 0))],.row 58 3 1 (ab (v.ranges.map bp)),.box 55 [.d (.v (.int .i64 v.id)),.own 2 1,.own 4 k],.row 71 4 k (ab ((pre.take k).map aT)),.box 71 [.d (.v (.int .i64 s.id)),.d (.v (.int .i64 s.at_.at_)),.d (.v (.int .i64 s.at_.len)),.own 6 j],.row 74 2 j (ab ((s.faces.take j).map cj))]) trivial ?_ ?_ ?_
    ·refine(au (by simp) 5 71 [.d (.v (.int .i64 s.id)),.d (.v (.int .i64 s.at_.at_)),.d (.v (.int .i64 s.at_.len)),.d (.v (.slice none 0 0))] 3 74 2 rfl rfl rfl).trans ?_;exact wf (hb:=cL) (hbh:=cL)
    ·intro j f hf hj _ C hC;have ip:(j:Int) < (s.faces.length:Int):=by omega
     have kj:=wi j (by omega);have gY:=iO.2 f (Xl hf);have jm:j+1≤100:=by omega
     have pm:(Yg j s.faces).length=j:=by rw[Xq];omega
     replace hf:=Xj hf;have zQ:=hf.out;refine am ?_<;>intros;refine hC _ _ trivial ((ap 8 1 3 1 (f.addrs.map cy) rfl).trans ?_);simp only[iD,fz,gy,gj,g8,f9,aR,bS,bW,Xm,Xv,XM,XL,reduceIte,and_true,true_and,and_self,and_false,false_and,XG,XW,reduceCtorEq,cY];exact wf (hh:=(by rw[ag hf.out,Xo,Xm,Xv,←aI];rfl)) (hb:=cL) (hbh:=cL)
    ·intro _ C;refine am ?_<;>intros;refine th _ _ _ _ _ ?_ (.inl ⟨k+1,lM,rfl,rfl,rfl⟩) ((ap 6 s.faces.length 74 2 (s.faces.map cj) rfl).trans ?_)
     ·have:=hm.out;have:=bU.out;omega
     simp only[iD,fz,gy,gj,g8,f9,aR,bS,bW,Xm,Xv,XM,XL,reduceIte,and_true,true_and,and_self,and_false,false_and,XG,XW,reduceCtorEq];exact wf (hh:=(by rw[ag hq.out,Xo,Xm,Xv,←aI];rfl)) (hb:=cL) (hbh:=cL)
   ·obtain rfl:k=pre.length:=by omega
    have hs:v.subs[pre.length]? =some s0:=by rw[hL.out,XH (XB _),YG];rfl
    have iO:=h8.out s0 (Xl hs);replace hs:=Xj hs;have lT:=hs.out;obtain⟨k,i7⟩:∃k,k=pre.length:=⟨_,rfl⟩;rw[←i7]at lT dM cR jf jc th ⊢;rw[i7,Xt]at jc;replace i7:=Xj i7;refine am ?_<;>intros;refine bL ae ak (fun m e h=>(∃j,j≤preF.length∧m=s0.faces.length - j∧e=[(6,.d (.v (.int .i64 j))),(5,.ptr 5 0),(4,.d (.v (.int .i64 k))),(3,.ptr 3 0),(2,.ptr 1 0),(1,.ptr 0 0)]∧
     h=[.box 55 ((al v).map .d),.box 55 [.d (.v (.int .i64 0)),.d (.v (.slice none 0 0)),.d (.v (.slice none 0 0))],.row 58 3 1 (ab (v.ranges.map bp)),.box 55 [.d (.v (.int .i64 v.id)),.own 2 1,.own 4 k],.row 71 4 k (ab ((pre.take k).map aT)),.box 71 [.d (.v (.int .i64 s0.id)),.d (.v (.int .i64 s0.at_.at_)),.d (.v (.int .i64 s0.at_.len)),.own 6 j],.row 74 2 j (ab ((preF.take j).map cj))])∨
     ∃j i,j=preF.length+1+i∧i≤postF.length∧m=s0.faces.length - j∧e=[(6,.d (.v (.int .i64 j))),(5,.ptr 5 0),(4,.d (.v (.int .i64 k))),(3,.ptr 3 0),(2,.ptr 1 0),(1,.ptr 0 0)]∧
      h=[.box 55 ((al v).map .d),.box 55 [.d (.v (.int .i64 0)),.d (.v (.slice none 0 0)),.d (.v (.slice none 0 0))],.row 58 3 1 (ab (v.ranges.map bp)),.box 55 [.d (.v (.int .i64 v.id)),.own 2 1,.own 4 k],.row 71 4 k (ab ((pre.take k).map aT)),.box 71 [.d (.v (.int .i64 s0.id)),.d (.v (.int .i64 s0.at_.at_)),.d (.v (.int .i64 s0.at_.len)),.own 6 j],.row 74 2 j (eU cj preF (d8 f0 (.own 8 1)) (postF.take i)),.gone,.row 3 1 1 (ab (f0.addrs.map cy))]) _ _ _ (.inl ⟨0,XE _,rfl,rfl,rfl⟩) ?_ ?_
    ·refine(au (by simp) 5 71 [.d (.v (.int .i64 s0.id)),.d (.v (.int .i64 s0.at_.at_)),.d (.v (.int .i64 s0.at_.len)),.d (.v (.slice none 0 0))] 3 74 2 rfl rfl rfl).trans ?_;exact wf (hb:=cL) (hbh:=cL)
    ·rintro m2 e h (⟨j,hj,gZ,rfl,rfl⟩|⟨j,i,j6,hi,gZ,rfl,rfl⟩) C hC
     ·have ip:(j:Int) < (s0.faces.length:Int):=by have:=gI.out;omega
      have kj:IntKind.i64.wrap ((j:Int)+1)=((j+1:Nat):Int):=by rw[IntKind.wrap_i64];have:=iO.1;omega
      have jm:j+1≤100:=by have:=iO.1;omega
      have pm:(Yg j preF).length=j:=by rw[Xq];omega
      have gZ:=Xj gZ;by_cases xu:j < preF.length
      ·obtain⟨f,hq⟩:∃f,preF[j]? =some f:=⟨_,Xk xu⟩;have hf:s0.faces[j]? =some f:=by rw[R8.out,X2 xu];exact hq
       have gY:=iO.2 f (Xl hf);replace hf:=Xj hf;replace hq:=Xj hq;have zQ:=hf.out;refine am ?_<;>intros;refine hC _ _ _ _ _ ?_ (.inl ⟨j+1,xu,rfl,rfl,rfl⟩) ((ap 8 1 3 1 (f.addrs.map cy) rfl).trans ?_)
       ·have:=gZ.out;have:=gI.out;omega
       simp only[iD,fz,gy,gj,g8,f9,aR,bS,bW,Xm,Xv,XM,XL,reduceIte,and_true,true_and,and_self,and_false,false_and,XG,XW,reduceCtorEq,cY];exact wf (hh:=(by rw[ag hq.out,Xo,Xm,Xv,←aI];rfl)) (hb:=cL) (hbh:=cL)
      ·obtain rfl:j=preF.length:=by omega
       have hf:s0.faces[preF.length]? =some f0:=by rw[R8.out,XH (XB _),YG];rfl
       have gY:=iO.2 f0 (Xl hf);replace hf:=Xj hf;have zQ:=hf.out;refine am ?_<;>intros;refine hC _ _ _ _ _ ?_ (.inr ⟨preF.length+1,0,rfl,XE _,rfl,rfl,rfl⟩) ((aL 7 (by simp)).trans ?_)
       ·have:=gZ.out;have:=gI.out;omega
       exact wf (hb:=cL) (hbh:=cL)
     ·have gZ:=Xj gZ;have AZ:=Xj j6;have jm:preF.length+1+i+1≤100:=by have:=gI.out;have:=iO.1;omega
      have VT:(Yg i postF).length=i:=by rw[Xq];omega
      have MJ:j≤s0.faces.length:=by have:=gI.out;omega
      by_cases Ud:i < postF.length
      ·obtain⟨f,hq⟩:∃f,postF[i]? =some f:=⟨_,Xk Ud⟩;have hf:s0.faces[j]? =some f:=by
        rw[R8.out,XH (by omega),show j - preF.length=i+1 by omega,Yx];exact hq
       have gY:=iO.2 f (Xl hf);have ip:(j:Int) < (s0.faces.length:Int):=by have:=gI.out;omega
       have kj:IntKind.i64.wrap ((j:Int)+1)=((j+1:Nat):Int):=by rw[IntKind.wrap_i64];have:=iO.1;omega
       replace hf:=Xj hf;replace hq:=Xj hq;have zQ:=hf.out;clear j6;refine am ?_<;>intros;refine hC _ _ _ _ _ ?_ (.inr ⟨j+1,i+1,by have:=AZ.out;omega,Ud,rfl,rfl,rfl⟩) ((ap 10 1 3 1 (f.addrs.map cy) rfl).trans ?_)
       ·have:=gZ.out;have:=gI.out;have:=AZ.out;omega
       simp only[iD,fz,gy,gj,g8,f9,aR,bS,bW,Xm,Xv,XM,XL,reduceIte,and_true,true_and,and_self,and_false,false_and,XG,XW,reduceCtorEq,cY,d8];exact wf (hh:=(by rw[ag hq.out,←kJ];rfl)) (hb:=cL) (hbh:=cL)
      ·obtain rfl:i=postF.length:=by omega
       obtain rfl:j=s0.faces.length:=by have:=gI.out;omega
       clear j6;have R7:(Yg k pre).length=k:=by rw[i7.out,Xt]
       refine am ?_<;>intros;refine th _ _ _ _ _ ?_ (.inr ⟨k+1,0,by rw[i7.out],XE _,rfl,rfl,rfl⟩) ((aL 5 (by simp)).trans ?_)
       ·have:=hm.out;have:=bU.out;have:=i7.out;omega
       exact wf (hh:=(by rw[i7.out,Xt];rfl)) (hb:=cL) (hbh:=cL)
  ·have hm:=Xj hm;have rY:=Xj Bg;have jf:pre.length+1+q+1≤100:=by have:=bU.out;omega
   have jc:(Yg q post).length=q:=by rw[Xq];omega
   have uI:k≤v.subs.length:=by have:=bU.out;omega
   by_cases xu:q < post.length
   ·obtain⟨s,hq⟩:∃s,post[q]? =some s:=⟨_,Xk xu⟩;have hs:v.subs[k]? =some s:=by
     rw[hL.out,XH (by omega),show k - pre.length=q+1 by omega,Yx];exact hq
    have iO:=h8.out s (Xl hs);have dM:(k:Int) < (v.subs.length:Int):=by have:=bU.out;omega
    have cR:=wi k (by omega);replace hq:=Xj hq;replace hs:=Xj hs;have lT:=hs.out;clear Bg;refine am ?_<;>intros;refine bo ae ak s.faces (fun _=>True) (fun j=>[(6,.d (.v (.int .i64 j))),(5,.ptr 9 0),(4,.d (.v (.int .i64 k))),(3,.ptr 3 0),(2,.ptr 1 0),(1,.ptr 0 0)])
     (fun j=>[.box 55 ((al v).map .d),.box 55 [.d (.v (.int .i64 0)),.d (.v (.slice none 0 0)),.d (.v (.slice none 0 0))],.row 58 3 1 (ab (v.ranges.map bp)),.box 55 [.d (.v (.int .i64 v.id)),.own 2 1,.own 4 k],.row 71 4 k (eU aT pre (ck s0 (.own 6 s0.faces.length)) (post.take q)),.gone,.row 74 2 s0.faces.length (eU cj preF (d8 f0 (.own 8 1)) postF),.gone,.row 3 1 1 (ab (f0.addrs.map cy)),.box 71 [.d (.v (.int .i64 s.id)),.d (.v (.int .i64 s.at_.at_)),.d (.v (.int .i64 s.at_.len)),.own 10 j],.row 74 2 j (ab ((s.faces.take j).map cj))]) trivial ?_ ?_ ?_
    ·refine(au (by simp) 9 71 [.d (.v (.int .i64 s.id)),.d (.v (.int .i64 s.at_.at_)),.d (.v (.int .i64 s.at_.len)),.d (.v (.slice none 0 0))] 3 74 2 rfl rfl rfl).trans ?_;exact wf (hb:=cL) (hbh:=cL)
    ·intro j f hf hj _ C hC;have ip:(j:Int) < (s.faces.length:Int):=by omega
     have kj:=wi j (by omega);have gY:=iO.2 f (Xl hf);have jm:j+1≤100:=by omega
     have pm:(Yg j s.faces).length=j:=by rw[Xq];omega
     replace hf:=Xj hf;have zQ:=hf.out;refine am ?_<;>intros;refine hC _ _ trivial ((ap 12 1 3 1 (f.addrs.map cy) rfl).trans ?_);simp only[iD,fz,gy,gj,g8,f9,aR,bS,bW,Xm,Xv,XM,XL,reduceIte,and_true,true_and,and_self,and_false,false_and,XG,XW,reduceCtorEq,cY];exact wf (hh:=(by rw[ag hf.out,Xo,Xm,Xv,←aI];rfl)) (hb:=cL) (hbh:=cL)
    ·intro _ C;refine am ?_<;>intros;refine th _ _ _ _ _ ?_ (.inr ⟨k+1,q+1,by have:=rY.out;omega,xu,rfl,rfl,rfl⟩) ((ap 10 s.faces.length 74 2 (s.faces.map cj) rfl).trans ?_)
     ·have:=hm.out;have:=bU.out;have:=rY.out;omega
     simp only[iD,fz,gy,gj,g8,f9,aR,bS,bW,Xm,Xv,XM,XL,reduceIte,and_true,true_and,and_self,and_false,false_and,XG,XW,reduceCtorEq,cY,ck];exact wf (hh:=(by rw[ag hq.out,←kJ];rfl)) (hb:=cL) (hbh:=cL)
   ·obtain rfl:q=post.length:=by omega
    obtain rfl:k=v.subs.length:=by have:=bU.out;omega
    clear Bg;refine am ?_<;>intros;(try rw[Xt])
    refine(aL 0 (by simp)).trans ?_;refine(aL 1 (by simp[bw])).trans ?_;exact(aL 3 (by simp[bw])).trans (bn rfl rfl)
theorem DI {α:Type}{enc:α→List D}{l:List α}{i:Nat}(hi:i < l.length):(ay (ab (l.map enc)) i (Yg (l.length - (i+1)) (_j (i+1) (ab (l.map enc))))).length=l.length:=by
 have:=lE (ab (l.map enc)) i (i+1) l.length (by rw[aF,XD];exact hi) rfl (by rw[aF,XD]);rw[aF,XD]at this;exact this
theorem DJ {α:Type}{enc:α→List D}{l:List α}{i:Nat}(hi:i < l.length):Yg (i+(l.length - (i+1))) (ay (ab (l.map enc)) i (Yg (l.length - (i+1)) (_j (i+1) (ab (l.map enc)))))=ab ((l.eraseIdx i).map enc):=by
 have hL:(ab (l.map enc)).length=l.length:=by rw[aF,XD]
 have e1:ab ((l.eraseIdx i).map enc)=(ab (l.map enc)).eraseIdx i:=by rw[fX];exact fX _ _ _
 rw[e1];generalize ab (l.map enc)=L at*;have e2:Yg (l.length - (i+1)) (_j (i+1) L)=_j (i+1) L:=XN (by rw[XJ];omega);rw[e2];unfold ay;rw[X4,List.take_append,List.take_take,Xq];rw[show min (i+(l.length - (i+1))) i=i by omega,show min i L.length=i by omega,show i+(l.length - (i+1)) - i=(_j (i+1) L).length by rw[XJ];omega];rw[List.take_left',YK];rfl
theorem FA (v:Vpc)(id:Int)(hl:v.subs.length≤9223372036854775807)(hf:∀s∈v.subs,s.faces.length≤9223372036854775807):af prog 172 [.agg (al v),.v (.int .i64 id)] (.tup [.agg (al (fp v id).1),.v (.int .i64 (fp v id).2)]):=by
 obtain⟨R,hR⟩:∃R,R=fp v id:=⟨_,rfl⟩;rw[←hR];replace hR:=Xj hR;have a9:=gC v hl hf;clear hl hf;by_cases hc:bN v=0
 ·have hk:=aY hc;have Jo:=hk.n4;have Ej:=hk.n6;have gp:=wD v hk.n4 hk.n6 hk.n8;have db:=uH v id (by omega);unfold cz at db
  have aP:=hR.out;unfold fp at aP;rw[if_neg (by simpa using hc)]at aP;rw[hc]at a9;clear hR hc;cases hf:v.subs.findIdx? (fun s=>s.id==id)with
  |none=>
   rw[hf]at db aP;simp only at db aP;have ur:decide ((-1:Int) < 0)=true:=rfl;rw[aP];replace aP:=Xj aP;clear hk hf;refine pj func172 ntmps172 results172 ?_;refine am ?_<;>intros;all_goals exact dg
  |some i=>
   obtain⟨s,hs⟩:∃s,v.subs[i]? =some s:=⟨_,Xk (XI.1 hf).1⟩;have hi:=(XI.1 hf).1;rw[hf]at db aP;simp only[hs,Ye,ne_eq,XX.injEq]at db aP;have j4:decide ((i:Int) < 0)=false:=by simp
   have ph:=(hk.n8 s (Xl hs)).1;clear hk hf;by_cases h0:s.faces.length=0
   ·rw[if_neg (by simpa using h0)]at aP;have hd:decide ((s.faces.length:Int)>0)=false:=by simp[h0]
    have cR:=wi i (by omega);have h0i:(0:Int)≤(i:Int):=by omega
    have a0j:(i:Int)≤(v.subs.length:Int):=by omega
    have a0a:((i+1:Nat):Int)≤(v.subs.length:Int):=by omega
    have bB:¬ab (v.subs.map aT)=[]:=by
     intro h;have:=congrArg I' h;rw[aF,XD,XZ]at this;omega
    have nr:=DI (enc:=aT) hi;have lO:=DJ (enc:=aT) hi;have Jk:0 < v.subs.length:=by omega
    have D8:min (v.subs.length - (i+1)) (v.subs.length - (i+1))=v.subs.length - (i+1):=Zq _;have hlt:i+(v.subs.length - (i+1))≤v.subs.length:=by omega
    rw[aP];replace aP:=Xj aP;replace h0:=Xj h0;refine pj func172 ntmps172 results172 ?_;repeat' (first|(with_reducible refine And.intro ?_ ?_)|(with_reducible refine cn (fun _=>?_) (fun _=>?_))|(with_reducible refine aA (fun _=>?_) (fun _=>?_))|(with_reducible refine be (by kernel_rfl))|simp -dsimp only[go_sem,seval, *,al,aT,j4,hs,hd,cR,bB,nr,lO,Jk,Yo,Xq,XJ,undef]|((with_reducible refine bf ?_);simp -dsimp only[go_sem,seval,al,aT,j4,hs,hd,cR,bB,nr,lO,Jk,Yo,Xq,XJ,undef];first|refine aC (by first|assumption|exact a9|exact db) (by first|exact .inl rfl|exact .inr rfl) ?_|(refine aB (by assumption) ?_ ?_ ?_;(solve|(repeat(first|exact ai.refl _|exact ai.nil _|(refine ai.tup ?_)|(refine ai.agg ?_ rfl)|exact trivial|(refine And.intro ?_ ?_))));(solve|exact .inl rfl|exact .inr rfl)))|(refine aX [] (gp) ?_ ?_ ?_ ?_ ?_ ?_;(solve|rfl|simp only[go_sem,seval,al]);(solve|rfl);(solve|decide);(solve|simp);(solve|simp only[go_sem,seval,ax,al]))|omega|exact decide_eq_true (by omega)|exact ai.refl _)
    all_goals exact dg
   ·rw[if_pos (by simpa using h0)]at aP;have hd:decide ((s.faces.length:Int)>0)=true:=by simp;omega
    rw[aP];replace aP:=Xj aP;refine pj func172 ntmps172 results172 ?_;refine am ?_<;>intros;all_goals exact dg
 ·have h1:(bN v !=0)=true:=by simpa using hc
  have hr:R=(Vpc.zero,bN v):=by rw[hR.out];unfold fp;rw[if_pos hc]
  rw[hr];replace hr:=Xj hr;clear hR;refine pj func172 ntmps172 results172 ?_;refine am ?_<;>intros;exact dg
theorem DK (v:Vpc)(sub id:Int)(hl:v.subs.length≤9223372036854775807)(hf:∀s∈v.subs,s.faces.length≤9223372036854775807):af prog 175 [.agg (al v),.v (.int .i64 sub),.v (.int .i64 id)] (.tup [.agg (al (dX v sub id).1),.v (.int .i64 (dX v sub id).2)]):=by
 obtain⟨R,hR⟩:∃R,R=dX v sub id:=⟨_,rfl⟩;rw[←hR];replace hR:=Xj hR;have a9:=gC v hl hf;clear hl hf;by_cases hc:bN v=0
 ·have hk:=aY hc;have Jo:=hk.n4;have Ej:=hk.n6;have db:=uH v sub (by omega);unfold cz at db
  have aP:=hR.out;unfold dX at aP;rw[if_neg (by simpa using hc)]at aP;rw[hc]at a9;clear hR hc;have ur:decide ((-1:Int) < 0)=true:=rfl;cases hf:v.subs.findIdx? (fun s=>s.id==sub)with
  |none=>
   rw[hf]at db aP;simp only at db aP;rw[aP];replace aP:=Xj aP;clear hk hf;refine pj func175 ntmps175 results175 ?_;refine am ?_<;>intros;all_goals exact dg
  |some i=>
   obtain⟨pre,s,post,hv,iP,-,hs⟩:=fL hf;have iO:=hk.n8 s (Xl hs);have gp:=Mk v pre post s hv hk.n4 hk.n6 hk.n8;have j8:=wP s id (by omega);unfold cz at j8;have j4:decide ((i:Int) < 0)=false:=by simp
   have ph:v.subs.length=pre.length+1+post.length:=by rw[hv];simp;omega
   rw[hf]at db aP;simp only[hs]at db aP;clear hk hf;cases hg:s.faces.findIdx? (fun f=>f.id==id)with
   |none=>
    rw[hg]at j8 aP;simp only at j8 aP;rw[aP];replace aP:=Xj aP;clear gp;replace hv:=Xj hv;clear hg iP ph;refine pj func175 ntmps175 results175 ?_;refine am ?_<;>intros;all_goals exact dg
   |some k=>
    have uI:k < s.faces.length:=(XI.1 hg).1;rw[hg]at j8 aP;simp only at j8 aP;rw[show v.subs.set i {s with faces:=s.faces.eraseIdx k}=pre++{s with faces:=s.faces.eraseIdx k}::post by
     rw[hv,←iP,Yu _ _ (XB _),YG,Xu]]at aP
    have hk0:decide ((k:Int) < 0)=false:=by simp
    have cR:=wi k (by omega);have bB:¬ab (s.faces.map cj)=[]:=by
     intro h;have:=congrArg I' h;rw[aF,XD,XZ]at this;omega
    have nr:=DI (enc:=cj) uI;have lO:=DJ (enc:=cj) uI;have Jk:0 < s.faces.length:=by omega
    have D8:min (s.faces.length - (k+1)) (s.faces.length - (k+1))=s.faces.length - (k+1):=Zq _;have hlt:k+(s.faces.length - (k+1))≤s.faces.length:=by omega
    rw[aP];replace aP:=Xj aP;replace hv:=Xj hv;subst iP;clear hg;refine pj func175 ntmps175 results175 ?_;repeat' (first|(with_reducible refine And.intro ?_ ?_)|(with_reducible refine cn (fun _=>?_) (fun _=>?_))|(with_reducible refine aA (fun _=>?_) (fun _=>?_))|(with_reducible refine be (by kernel_rfl))|simp -dsimp only[go_sem,seval, *,al,aT,ck,iF,ri,Cu,rg,m5,j4,hk0,hs,cR,bB,nr,lO,Jk,Yo,Xq,XJ,undef]|((with_reducible refine bf ?_);simp -dsimp only[go_sem,seval,al,aT,ck,iF,ri,Cu,rg,m5,j4,hk0,hs,cR,bB,nr,lO,Jk,Yo,Xq,XJ,undef];first|refine aC (by first|assumption|exact a9|exact db|exact j8) (by first|exact .inl rfl|exact .inr rfl) ?_|(refine aB (by assumption) ?_ ?_ ?_;(solve|(repeat(first|exact ai.refl _|exact ai.nil _|(refine ai.tup ?_)|(refine ai.agg ?_ rfl)|exact trivial|(refine And.intro ?_ ?_))));(solve|exact .inl rfl|exact .inr rfl)))|(refine aX [] (gp) ?_ ?_ ?_ ?_ ?_ ?_;(solve|rfl|simp only[go_sem,seval,al,ck,iF]);(solve|rfl);(solve|decide);(solve|simp);(solve|simp only[go_sem,seval,ax,al,ck,iF]))|omega|exact decide_eq_true (by omega)|exact ai.refl _)
    all_goals(first|omega|(simp only[al,aT,Xo,Xm];exact dg))
 ·have h1:(bN v !=0)=true:=by simpa using hc
  have hr:R=(Vpc.zero,bN v):=by rw[hR.out];unfold dX;rw[if_pos hc]
  rw[hr];replace hr:=Xj hr;clear hR;refine pj func175 ntmps175 results175 ?_;refine am ?_<;>intros;exact dg
end Go.Proofs.YtmicljipaiohkaaGreat
