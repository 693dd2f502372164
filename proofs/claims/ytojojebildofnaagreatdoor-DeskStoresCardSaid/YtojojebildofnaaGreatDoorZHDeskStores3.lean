/- Texts of this work, joined. -/
import Derived.Test.YtojojebildofnaaGreatDoorZHDeskStores2
import Derived.Shelf.Slices.SearchI
import Derived.IntWalk
import Derived.RangeFuncNested
import Derived.RangeFuncBound
import Derived.RangeFuncCalls
import Derived.RangeFuncLeaves
import Derived.Shelf.Abstract
import Derived.Shelf.RegionOpen
import Derived.OwnWalkIn
import Derived.TacticsInMore
import Derived.LoopNIn
import Derived.LoopIn
import Derived.Deep.RegionLaw
import Derived.Shelf.RegionOpenPlain
import Derived.Lib.Overlaps
import Derived.Lib.AppendZerosOnto
import Derived.Laws.Externs
import Derived.Lib.SliceRun
set_option linter.unusedSimpArgs false
set_option linter.unusedVariables false
set_option maxRecDepth 100000
set_option maxHeartbeats 16000000
namespace Go.Proofs.YtojojebildofnaaGreatDoor
open Go Go.RowKit Go.Proofs.Tryz
open Go.Lib renaming hid → Xj
open _root_.List renaming getElem?_eq_getElem → Xk, mem_of_getElem? → Xl, map_cons → Xm, getElem?_eq_some_iff → Xn, map_append → Xo, length_take → Xp, take_length → Xq, map_nil → Xr, length_append → Xv, length_cons → Xx, getElem?_map → Xy, all_eq_true → XA, length_map → XB, getD_eq_getElem?_getD → XC, pairwise_iff_getElem → XF, take_of_length_le → XG, getElem?_append_right → XH, findIdx?_eq_some_iff_getElem → XI, mem_map → XN, setIfInBounds_toArray → XO, getElem?_take_of_lt → XP, set_cons_zero → XQ, getElem?_eq_none → XR, length_drop → XS, any_eq_true → XU, append_assoc → XV, length_nil → XX, replicate → XY, set_cons_succ → XZ, mem_append → X0, mem_cons → X2, mem_iff_getElem → X3, eq_nil_of_length_eq_zero → X4, getElem?_append_left → X5, mem_singleton → X7, range → X8, cons_append → X9, getElem_of_mem → Ya, nil_append → Yb, mem_of_mem_drop → Yc, mem_of_mem_take → Yd, getElem_mem → Ye, take → Yf, any_eq_false → Yh, append_nil → Yi, ext_getElem? → Yj, getElem?_drop → Yl, take_append_of_le_length → Ym, findIdx?_eq_none_iff → Yn, find?_eq_none → Yr, set_append_right → Yu, getElem?_cons_succ → Yw, pairwise_cons → YC, mem_of_find?_eq_some → YE, size_toArray → YG, take_append_drop → YK, flatten_cons → YL, flatMap_append → YN, foldl_cons → YO, drop_eq_getElem_cons → YR, mem_range → YS, pairwise_append → YV, all_eq_false → YW, filter_eq_self → Y5, toList_toArray → Y6, pairwise_map → Y8, drop_length → Zc, mem_map_of_mem → Zd, take_succ_eq_append_getElem → Zf, find?_eq_some_iff_getElem → Zk, length_pos_iff → Zl, foldl_append → Zm, find?_some → Zs, filter_filter → Zt, getElem?_take → Zu, flatMap_cons → Zy, mem_filter → ZB, map_take → ZI, getElem_take → ZP, append_toArray → ZT, contains_iff_mem → Z3, all_append → Z5, map_map → Z6, push_toArray → Z9, getElem_map → B', mem_flatten → C', getElem_cons_drop → F', filter_congr → J', mem_append_left → N', flatten_append → _b, nodup_append → _l, take_sublist → _m
open Go.World renaming size_alloc → Xs, heap_drewN → Xu, size_drew → Xw, cell? → YU, cell?_of_block → Zw, setRow → ZU
open _root_.Bool renaming and_eq_true → Xt, eq_iff_iff → Yk, and_self → Yq, true_and → Ys, and_true → YA, false_eq_true → YB, eq_false_iff → YD, or_eq_false_iff → Zx, not_eq_true' → ZO, and_eq_false_iff → Z2, false_or → p', and_assoc → _n
open _root_.Nat renaming le_refl → Xz, zero_le → XD, zero_add → XE, reduceEqDiff → XK, reduceAdd → XL, lt_or_ge → XM, add_zero → XT, mul_le_mul_right → Yt, lt_of_lt_of_le → Yx, le_trans → Yy, sub_self → YF, not_lt_zero → YH, succ_mul → YP, le_of_eq → YZ, lt_trichotomy → Y7, add_assoc → Zh, sub_zero → Zj, min_self → Zr, add_mul → ZC, eq_zero_or_pos → ZG, zero_lt_succ → ZX, min → Z4, reduceLT → Z8, min_def → P', le_of_lt → V', reduceSub → _e, lt_or_eq_of_le → _g, le_of_lt_succ → _o
open _root_.Option renaming map_eq_some_iff → XJ, some → XW, map_some → Yg, getD_some → Yp, isSome_some → YM, bind_some → Y0, isSome_none → Zg, isSome_iff_exists → Zo, isNone_some → Zv, isNone_none → _h
open _root_.Array renaming getElem?_toList → X6, getElem?_eq_none → Yo, getElem?_eq_some_iff → Yz, getElem?_eq_getElem → YQ, replicate → Za, replicate_succ → ZL, replicate_zero → ZM, mem_of_getElem? → Z1, toList_map → U', toList_append → _c, eq_empty_of_size_eq_zero → _s, range → _v
open _root_.Int renaming dvd_of_emod_eq_zero → YJ, lt_irrefl → ZJ, eq_ofNat_of_zero_le → ZN, emod_eq_zero_of_dvd → ZQ, le_refl → ZW, fdiv_eq_ediv_of_nonneg → ZZ, toNat_of_nonneg → A', lt_or_le → X', dvd_trans → _d, dvd_sub → _w, max_eq_right → _x, pow_succ → _y, le_total → _z, max_eq_left → _B
theorem IO {p:Prop}(h:p:=by
 obtain rfl:k=v.ranges.length:=aa;rw[Xq]at hX ⊢;replace hX:=Xj hX;replace hm0:=Xj hm0;refine ap ?_<;>intros;refine bQ ag am (fun m e h=>∃(k g2:Nat) (Y:Bool),k<=v.subs.length/\Y=(X&&(v.subs.take k).all (nE v))/\m=v.subs.length - k/\e=[(53,.d (.v (.int .i64 k))),(52,.d (.v (.int .i64 v.subs.length))),(51,.d (.sl 4 (v.subs.map aX))),(5,.d (.v (.bool Y))),(4,.own 2 g2),(3,.own 1 g),(2,.d (.v (.int .i64 0))),(1,.ptr 0 0)]/\
  h=[.box 88 ((ax v).map .d),.row 23 2 g (ab ((v.ranges.map (·.at_)).map aS)),.row 23 2 g2 (ab (((v.subs.take k).map (·.at_)).map aS))]) _ _ _ ⟨0,0,X,XD _,by simp,rfl,rfl,rfl⟩ ((cZ (XD _) 4 23 2 rfl).trans (wf)) ?_
 rintro m2 e h ⟨k,g2,Y,jV,hY,iQ,rfl,rfl⟩ C hC;by_cases hlt:k < v.subs.length
 ·have eo:(k:Int) < (v.subs.length:Int):=aa;have db:=wi k aa;obtain⟨s,hs⟩:∃s,v.subs[k]? =some s:=⟨_,Xk hlt⟩;have lR:=Xl hs;have H5:=mg s.id;have Of:=tW v s.at_ aa;have hsf:=DO s (h8.out s lR).1 (h8.out s lR).2;have li:(Yf k v.subs).length=k:=by rw[Xp];omega
  have xz:(k+1)*16<=140737488355328:=aa;have rq:=mi (p:=nE v) hs;have rU:nE v s=(cB s.id&&(fJ v s.at_&&dI s)):=rfl;generalize fJ v s.at_=H at*;generalize cB s.id=I at*;generalize dI s=F at*;replace hY:=Xj hY;replace rq:=Xj rq;replace rU:=Xj rU;replace iQ:=Xj iQ;replace hs:=Xj hs;have a1K:=hs.out;refine ft ?_ ?_ ?_ ?_ ?_ ?_ ?_ ?_<;>first|(with_reducible exact True.intro)|intros
  all_goals(refine hC _ _ _ _ _ ?_ ⟨k+1,g2+1,_,hlt,?_,rfl,rfl,rfl⟩ (wf (hh:=(by rw[ak hs.out];simp only[ax,Xo,Xm,Xr,aS,<-aI];rfl))))
  all_goals first
   |(have:=iQ.out;omega)
   |(have h1:=hY.out;have h2:=rq.out;have h3:=rU.out;clear EA EB uE lD hid H5 Of hsf hC AH;grind)
 ·obtain rfl:k=v.subs.length:=aa;rw[Xq]at hY ⊢;replace hY:=Xj hY;replace iQ:=Xj iQ;have ha1:il [] (v.ranges.map (·.at_))=il [] (v.ranges.map (·.at_)):=rfl;generalize V1:il [] (v.ranges.map (·.at_))=A1 at*;generalize OA:il [] (v.subs.map (·.at_))=A2 at*;replace V1:=Xj V1;replace OA:=Xj OA;clear ha1;refine ap ?_<;>intros;all_goals
   have h1:=hX.out;have h2:=hY.out;clear EA EB uE lD hid hC AH;first
    |exact aP.refl _
    |(rw[aj lj];exact aP.refl _)
    |(rw[af lj];exact aP.refl _)
    |(exfalso;grind)):p:=h
theorem Pi {p:Prop}(h:p:=by
 have eo:(k:Int) < (v.ranges.length:Int):=aa;have db:=wi k aa;obtain⟨r,hr⟩:∃r,v.ranges[k]? =some r:=⟨_,Xk hlt⟩;have JX:=mg r.pool;have hrc:=qU r.at_;have li:(Yf k v.ranges).length=k:=by rw[Xp];omega
 have xz:(k+1)*16<=140737488355328:=aa;have rq:=mi (p:=eK) hr;have rB:eK r=(cB r.pool&&(chk r.at_.at_ r.at_.len==0)):=rfl;generalize chk r.at_.at_ r.at_.len=K at*;generalize cB r.pool=I at*;replace hX:=Xj hX;replace rq:=Xj rq;replace rB:=Xj rB;replace hm0:=Xj hm0;replace hr:=Xj hr;have a1J:=hr.out;refine ft ?_ ?_ ?_ ?_ ?_ ?_ ?_ ?_<;>first|(with_reducible exact True.intro)|intros
 all_goals(refine hC _ _ _ _ _ ?_ ⟨k+1,g+1,_,hlt,?_,rfl,rfl,rfl⟩ (wf (hh:=(by rw[ak hr.out];simp only[ax,Xo,Xm,Xr,aS,<-aI];rfl))))
 all_goals first
  |(have:=hm0.out;omega)
  |(have h1:=hX.out;have h2:=rq.out;have h3:=rB.out;clear EA EB uE lD hid JX hrc hC AH;grind)):p:=h
def lB (at_:Pfx)(f:Fce):Bool:=cB f.id&&(!((f.addrs.length:Int)==0)&&(fK (fun x=>x) f.addrs&&f.addrs.all (jh at_)))
def dI (s:Sbn):Bool:=s.faces.all (lB s.at_)&&(decide (s.faces.flatMap (·.addrs)).Nodup&&fK (·.id) s.faces)
theorem PS (n:Int):ai prog 266 [.v (.int .i64 n)] (.v (.int .i64 n)):=by
 refine pj func266 ntmps266 results266 ?_;exact bc
theorem PT (f:Fce):ai prog 268 [.agg (cl f)] (.v (.int .i64 f.id)):=by
 refine pj func268 ntmps268 results268 ?_;exact bc
def Wz (ents:List (List Int × Int))(done:List Int):Prop:=∀a,lV ents [a]=if a∈done then some 1 else none
theorem Kz:Wz [] []:=fun a=>by simp[lV]
theorem F8 {ents:List (List Int × Int)}{done:List Int}(h:Wz ents done){a:Int}(ha:a∉done):Wz (nT ents [a] 1) (done++[a]):=by
 intro b;rw[iN,h b];by_cases hb:a=b
 ·subst hb;simp
 ·have hb':¬b=a:=fun e=>hb e.symm;simp[hb,hb']
theorem sw {l:List Int}{a:Int}:(l++[a]).Nodup↔l.Nodup/\a∉l:=by
 rw[_l];simp;intro _;constructor
 ·intro h hm;exact h a hm rfl
 ·intro h b hb e;subst e;exact h hb
theorem DO (s:Sbn)(h8:s.faces.length<=8)(h4:∀f∈s.faces,f.addrs.length<=4):ai prog 212 [.agg (aX s)] (.v (.bool (dI s))):=by
 have Lu:=IP yM (·.id) s.faces 268 aa (fun f _=>PT f);refine pj func212 ntmps212 results212 ?_;refine ap ?_<;>intros;refine bQ ag am (fun m e h=>∃(k:Nat) (ents:List (List Int × Int)),k<=s.faces.length/\Wz ents ((s.faces.take k).flatMap (·.addrs))/\((s.faces.take k).flatMap (·.addrs)).Nodup/\(∀f∈s.faces.take k,lB s.at_ f=true)/\m=s.faces.length - k/\
  e=[(12,.d (.v (.int .i64 k))),(11,.d (.v (.int .i64 s.faces.length))),(10,.d (.sl 2 (s.faces.map cl))),(3,.mref 1),(2,.d (.v (.bool false))),(1,.ptr 0 0)]/\h=[.box 107 ((aX s).map .d),.mp 1 false ents]) _ _ _ ⟨0,[],XD _,Kz,List.nodup_nil,fun f h=>by simp at h,rfl,rfl,rfl⟩ (wf) ?_
 rintro m e h ⟨k,ents,hk,rA,mM,bo,hm,rfl,rfl⟩ C hC;by_cases hlt:k < s.faces.length
 ·have eo:(k:Int) < (s.faces.length:Int):=aa;have db:=wi k aa;obtain⟨f,hf⟩:∃f,s.faces[k]? =some f:=⟨_,Xk hlt⟩;have mY:=Xl hf;have hid:=mg f.id;have AP:=MV f.addrs 266 (by have:=h4 f mY;omega) PS;have gX:=h4 f mY;have bL:lB s.at_ f=false->dI s=false:=fun h=>by
   unfold dI;rw[Z2];left;rw[YW];exact⟨f,mY,by rw[h];simp⟩
  replace bL:=Xj bL;replace hm:=Xj hm;replace rA:=Xj rA;replace mM:=Xj mM;replace bo:=Xj bo;have JY:lB s.at_ f=(cB f.id&&(!((f.addrs.length:Int)==0)&&(fK (fun x=>x) f.addrs&&f.addrs.all (jh s.at_)))):=rfl;replace JY:=Xj JY;cases b1:cB f.id with
  |false=>
   rw[b1]at hid;refine ap ?_<;>intros;all_goals(rw[bL.out (by rw[JY.out,b1];rfl)];exact aP.refl _)
  |true=>
  rw[b1]at hid;cases b2:(f.addrs.length:Int)==0 with
  |true=>
   refine ap ?_<;>intros;all_goals(rw[bL.out (by rw[JY.out,b1,b2];rfl)];exact aP.refl _)
  |false=>
  cases b3:fK (fun x=>x) f.addrs with
  |false=>
   rw[b3]at AP;refine ap ?_<;>intros;all_goals(rw[bL.out (by rw[JY.out,b1,b2,b3];rfl)];exact aP.refl _)
  |true=>
  rw[b3]at AP;refine ap ?_<;>intros;refine bQ ag am (fun m e h=>∃(j:Nat) (ents:List (List Int × Int)),j<=f.addrs.length/\Wz ents ((s.faces.take k).flatMap (·.addrs)++f.addrs.take j)/\((s.faces.take k).flatMap (·.addrs)++f.addrs.take j).Nodup/\(∀a∈f.addrs.take j,jh s.at_ a=true)/\m=f.addrs.length - j/\
   e=[(35,.d (.v (.int .i64 j))),(34,.d (.v (.int .i64 f.addrs.length))),(33,.d (.sl 1 (f.addrs.map cF))),(12,.d (.v (.int .i64 k))),(11,.d (.v (.int .i64 s.faces.length))),(10,.d (.sl 2 (s.faces.map cl))),(3,.mref 1),(2,.d (.v (.bool false))),(1,.ptr 0 0)]/\h=[.box 107 ((aX s).map .d),.mp 1 false ents]) _ _ _ ⟨0,ents,XD _,by simpa using rA.out,by simpa using mM.out,fun f h=>by simp at h,rfl,rfl,rfl⟩ (wf) ?_
  rintro m2 e h ⟨j,en2,hj,jZ,AF,AG,iQ,rfl,rfl⟩ C2 j6;by_cases ro:j < f.addrs.length
  ·have lz:(j:Int) < (f.addrs.length:Int):=aa;have nI:=wi j aa;obtain⟨a,ha⟩:∃a,f.addrs[j]? =some a:=⟨_,Xk ro⟩;have ham:=Xl ha;have d9:=Kx s.at_ a;have hca:=jZ a;have jd:f.addrs.take (j+1)=f.addrs.take j++[a]:=ak ha;replace jd:=Xj jd;replace iQ:=Xj iQ;replace AG:=Xj AG;replace AF:=Xj AF;by_cases hd:a∈(s.faces.take k).flatMap (·.addrs)++f.addrs.take j
   ·rw[aj hd]at hca;have hr:dI s=false:=by
     have:¬(s.faces.flatMap (·.addrs)).Nodup:=by
      intro hn;have Az:((s.faces.take k).flatMap (·.addrs)++f.addrs.take (j+1)).Sublist (s.faces.flatMap (·.addrs)):=by
       conv=>rhs;rw[<-YK k s.faces,kR hf,YN,Zy]
       exact List.Sublist.append (List.Sublist.refl _) ((_m _ _).trans (List.sublist_append_left _ _))
      have:=Az.nodup hn;rw[jd.out,<-XV,sw]at this;exact this.2 hd
     unfold dI;simp[this]
    have gW:lV (nT en2 [a] 2) [a]=some 2:=by rw[iN,aj rfl]
    replace jZ:=Xj jZ;have cj:IntKind.i64.wrap 2=2:=mR;have hgt:decide ((2:Int)>1)=true:=rfl;exact bc;all_goals(rw[hr];exact aP.refl _)
   ·rw[af hd]at hca;have gW:lV (nT en2 [a] 1) [a]=some 1:=by rw[iN,aj rfl]
    have eV:=F8 jZ hd;replace jZ:=Xj jZ;replace eV:=Xj eV;have cj:IntKind.i64.wrap 1=1:=mR;have hgt:decide ((1:Int)>1)=false:=rfl;cases b4:jh s.at_ a with
    |false=>
     rw[b4]at d9;have hr:dI s=false:=bL.out (by
      rw[JY.out,b1,b2,b3];have:f.addrs.all (jh s.at_)=false:=by rw[YW];exact⟨a,ham,by rw[b4];simp⟩
      rw[this];rfl)
     exact bc;all_goals(rw[hr];exact aP.refl _)
    |true=>
     rw[b4]at d9;refine ap ?_<;>intros;refine j6 _ _ _ _ _ ?_ ⟨j+1,nT en2 [a] 1,ro,?_,?_,?_,rfl,rfl,rfl⟩ (wf)
     ·have:=iQ.out;omega
     ·rw[jd.out,<-XV];exact eV.out
     ·rw[jd.out,<-XV,sw];exact⟨AF.out,hd⟩
     ·intro b hb;rw[jd.out]at hb;rcases X0.1 hb with hb|hb
      ·exact AG.out b hb
      ·rw[X7.1 hb];exact b4
  ·obtain rfl:j=f.addrs.length:=aa;rw[Xq]at jZ AF AG;have xA:(s.faces.take (k+1)).flatMap (·.addrs)=(s.faces.take k).flatMap (·.addrs)++f.addrs:=by rw[ak hf,YN];simp
   replace iQ:=Xj iQ;replace jZ:=Xj jZ;replace AF:=Xj AF;replace AG:=Xj AG;replace xA:=Xj xA;refine ap ?_<;>intros;refine hC _ _ _ _ _ ?_ ⟨k+1,en2,hlt,?_,?_,?_,rfl,rfl,rfl⟩ (wf)
   ·have:=hm.out;omega
   ·rw[xA.out];exact jZ.out
   ·rw[xA.out];exact AF.out
   ·intro g hg;rw[ak hf]at hg;rcases X0.1 hg with hg|hg
    ·exact bo.out g hg
    ·rw[X7.1 hg,JY.out,b1,b2,b3];simp only[Ys,Bool.not_false];exact XA.2 AG.out
 ·obtain rfl:k=s.faces.length:=aa;rw[Xq]at rA mM bo;have hr:dI s=fK (·.id) s.faces:=by
   unfold dI;rw[XA.2 bo];simp[mM]
  replace hr:=Xj hr;replace rA:=Xj rA;replace mM:=Xj mM;replace bo:=Xj bo;replace hm:=Xj hm;refine ap ?_<;>intros;all_goals(rw[hr.out];exact aP.refl _)
def eK (r:Rng):Bool:=cB r.pool&&(chk r.at_.at_ r.at_.len==0)
def nE (v:Vpc)(s:Sbn):Bool:=cB s.id&&(fJ v s.at_&&dI s)
def rN (v:Vpc):Bool:=(cB v.id&&(fK (·.at_.at_) v.ranges&&fK (·.id) v.subs))&&(v.ranges.all eK&&v.subs.all (nE v))
def bT (v:Vpc):Int:=if mh v then 2 else if rN v&&(il [] (v.ranges.map (·.at_))&&il [] (v.subs.map (·.at_)))then 0 else 1
theorem MW (r:Rng):ai prog 209 [.agg (bE r)] (.v (.int .i64 r.at_.at_)):=by
 refine pj func209 ntmps209 results209 ?_;exact bc
theorem MX (s:Sbn):ai prog 211 [.agg (aX s)] (.v (.int .i64 s.id)):=by
 refine pj func211 ntmps211 results211 ?_;exact bc
theorem mi {α:Type}{p:α->Bool}{l:List α}{k:Nat}{x:α}(h:l[k]? =some x):(l.take (k+1)).all p=((l.take k).all p&&p x):=by
 rw[ak h,Z5];simp
theorem qf (v:Vpc):ai prog 125 [.agg (ax v)] (.v (.int .i64 (bT v))):=by
 have AH:=Wy v;cases hm:mh v with
 |true=>
  rw[hm]at AH;have hr:bT v=2:=by unfold bT;rw[aj hm]
  rw[hr];refine pj func125 ntmps125 results125 ?_;exact bc
 |false=>
 obtain⟨h4,h6,h8⟩:=yZ hm;rw[hm]at AH;have hid:=mg v.id;have uE:=F7 nZ (fun r:Rng=>r.at_.at_) v.ranges 209 aa (fun r _=>MW r);have lD:=MU nY (fun s:Sbn=>s.id) v.subs 211 aa (fun r _=>MX r);obtain⟨F0,hF0⟩:∃F0,F0=(cB v.id&&(fK (·.at_.at_) v.ranges&&fK (·.id) v.subs)):=⟨_,rfl⟩;have EA:=Ky (v.ranges.map (·.at_)) (by rw[XB];omega);have EB:=Ky (v.subs.map (·.at_)) (by rw[XB];omega);have sV:bT v=if (F0&&v.ranges.all eK&&v.subs.all (nE v))&&(il [] (v.ranges.map (·.at_))&&il [] (v.subs.map (·.at_)))then 0 else 1:=by
  unfold bT rN;rw[af (by simp[hm]),hF0];simp only[_n]
 rw[sV];replace sV:=Xj sV;replace h8:=Xj h8;replace hm:=Xj hm;replace AH:=Xj AH;cases b1:cB v.id with
 |false=>
  rw[b1,Bool.false_and]at hF0;subst hF0;rw[b1]at hid;refine pj func125 ntmps125 results125 ?_;have z1z:=AH.out;have z2z:=AH.out;refine ap ?_<;>intros;refine bQ ag am (fun m e h=>∃(k g:Nat) (X:Bool),k<=v.ranges.length/\X=(false&&(v.ranges.take k).all eK)/\m=v.ranges.length - k/\e=[(28,.d (.v (.int .i64 k))),(27,.d (.v (.int .i64 v.ranges.length))),(26,.d (.sl 3 (v.ranges.map bE))),(5,.d (.v (.bool X))),(4,.d (.v (.slice none 0 0))),(3,.own 1 g),(2,.d (.v (.int .i64 0))),(1,.ptr 0 0)]/\
   h=[.box 88 ((ax v).map .d),.row 23 2 g (ab (((v.ranges.take k).map (·.at_)).map aS))]) _ _ _ ⟨0,0,false,XD _,by simp,rfl,rfl,rfl⟩ ((cZ (XD _) 3 23 2 rfl).trans (wf)) ?_
  rintro m e h ⟨k,g,X,hk,hX,hm0,rfl,rfl⟩ C hC;by_cases hlt:k < v.ranges.length
  ·exact Pi
  ·exact IO
 |true=>
  rw[b1]at hid;cases b2:fK (fun r:Rng=>r.at_.at_) v.ranges with
  |false=>
   rw[b1,b2,Bool.false_and,Bool.and_false]at hF0;subst hF0;rw[b2]at uE;refine pj func125 ntmps125 results125 ?_;have z1z:=AH.out;refine ap ?_<;>intros;refine bQ ag am (fun m e h=>∃(k g:Nat) (X:Bool),k<=v.ranges.length/\X=(false&&(v.ranges.take k).all eK)/\m=v.ranges.length - k/\e=[(28,.d (.v (.int .i64 k))),(27,.d (.v (.int .i64 v.ranges.length))),(26,.d (.sl 3 (v.ranges.map bE))),(5,.d (.v (.bool X))),(4,.d (.v (.slice none 0 0))),(3,.own 1 g),(2,.d (.v (.int .i64 0))),(1,.ptr 0 0)]/\
    h=[.box 88 ((ax v).map .d),.row 23 2 g (ab (((v.ranges.take k).map (·.at_)).map aS))]) _ _ _ ⟨0,0,false,XD _,by simp,rfl,rfl,rfl⟩ ((cZ (XD _) 3 23 2 rfl).trans (wf)) ?_
   rintro m e h ⟨k,g,X,hk,hX,hm0,rfl,rfl⟩ C hC;by_cases hlt:k < v.ranges.length
   ·exact Pi
   ·exact IO
  |true=>
   rw[b1,b2,Ys,Ys]at hF0;subst hF0;rw[b2]at uE;generalize fK (fun s:Sbn=>s.id) v.subs=F0 at*;refine pj func125 ntmps125 results125 ?_;have z1z:=AH.out;refine ap ?_<;>intros;refine bQ ag am (fun m e h=>∃(k g:Nat) (X:Bool),k<=v.ranges.length/\X=(F0&&(v.ranges.take k).all eK)/\m=v.ranges.length - k/\e=[(28,.d (.v (.int .i64 k))),(27,.d (.v (.int .i64 v.ranges.length))),(26,.d (.sl 3 (v.ranges.map bE))),(5,.d (.v (.bool X))),(4,.d (.v (.slice none 0 0))),(3,.own 1 g),(2,.d (.v (.int .i64 0))),(1,.ptr 0 0)]/\
    h=[.box 88 ((ax v).map .d),.row 23 2 g (ab (((v.ranges.take k).map (·.at_)).map aS))]) _ _ _ ⟨0,0,F0,XD _,by simp,rfl,rfl,rfl⟩ ((cZ (XD _) 3 23 2 rfl).trans (wf)) ?_
   rintro m e h ⟨k,g,X,hk,hX,hm0,rfl,rfl⟩ C hC;by_cases hlt:k < v.ranges.length
   ·exact Pi
   ·obtain rfl:k=v.ranges.length:=aa;rw[Xq]at hX ⊢;replace hX:=Xj hX;replace hm0:=Xj hm0;refine ap ?_<;>intros;refine bQ ag am (fun m e h=>∃(k g2:Nat) (Y:Bool),k<=v.subs.length/\Y=(X&&(v.subs.take k).all (nE v))/\m=v.subs.length - k/\e=[(53,.d (.v (.int .i64 k))),(52,.d (.v (.int .i64 v.subs.length))),(51,.d (.sl 4 (v.subs.map aX))),(5,.d (.v (.bool Y))),(4,.own 2 g2),(3,.own 1 g),(2,.d (.v (.int .i64 0))),(1,.ptr 0 0)]/\
     h=[.box 88 ((ax v).map .d),.row 23 2 g (ab ((v.ranges.map (·.at_)).map aS)),.row 23 2 g2 (ab (((v.subs.take k).map (·.at_)).map aS))]) _ _ _ ⟨0,0,X,XD _,by simp,rfl,rfl,rfl⟩ ((cZ (XD _) 4 23 2 rfl).trans (wf)) ?_
    rintro m2 e h ⟨k,g2,Y,jV,hY,iQ,rfl,rfl⟩ C hC;by_cases hlt:k < v.subs.length
    ·have eo:(k:Int) < (v.subs.length:Int):=aa;have db:=wi k aa;obtain⟨s,hs⟩:∃s,v.subs[k]? =some s:=⟨_,Xk hlt⟩;have lR:=Xl hs;have H5:=mg s.id;have Of:=tW v s.at_ aa;have hsf:=DO s (h8.out s lR).1 (h8.out s lR).2;have li:(Yf k v.subs).length=k:=by rw[Xp];omega
     have xz:(k+1)*16<=140737488355328:=aa;have rq:=mi (p:=nE v) hs;have rU:nE v s=(cB s.id&&(fJ v s.at_&&dI s)):=rfl;generalize fJ v s.at_=H at*;generalize cB s.id=I at*;generalize dI s=F at*;replace hY:=Xj hY;replace rq:=Xj rq;replace rU:=Xj rU;replace iQ:=Xj iQ;replace hs:=Xj hs;have a1K:=hs.out;refine ft ?_ ?_ ?_ ?_ ?_ ?_ ?_ ?_<;>first|(with_reducible exact True.intro)|intros
     all_goals(refine hC _ _ _ _ _ ?_ ⟨k+1,g2+1,_,hlt,?_,rfl,rfl,rfl⟩ (wf (hh:=(by rw[ak hs.out];simp only[ax,Xo,Xm,Xr,aS,<-aI];rfl))))
     all_goals first
      |(have:=iQ.out;omega)
      |(have h1:=hY.out;have h2:=rq.out;have h3:=rU.out;clear EA EB uE lD hid H5 Of hsf hC AH;grind)
    ·obtain rfl:k=v.subs.length:=aa;rw[Xq]at hY ⊢;replace hY:=Xj hY;replace iQ:=Xj iQ;have ha1:il [] (v.ranges.map (·.at_))=il [] (v.ranges.map (·.at_)):=rfl;generalize V1:il [] (v.ranges.map (·.at_))=A1 at*;generalize OA:il [] (v.subs.map (·.at_))=A2 at*;replace V1:=Xj V1;replace OA:=Xj OA;clear ha1;refine AN ?_ ?_<;>intros;all_goals
      have h1:=hX.out;have h2:=hY.out;clear EA EB uE lD hid hC AH;first
       |exact aP.refl _
       |(rw[aj lj];exact aP.refl _)
       |(rw[af lj];exact aP.refl _)
       |(exfalso;grind)
def cy (s:Sbn)(v:PV):List PV:=[.d (.v (.int .i64 s.id)),.d (.v (.int .i64 s.at_.at_)),.d (.v (.int .i64 s.at_.len)),v]
def eB (f:Fce)(v:PV):List PV:=[.d (.v (.int .i64 f.id)),v]
def fA {α:Type}(enc:α->List D)(pre:List α)(r:List PV)(post:List α):List (List PV):=ab (pre.map enc)++r::ab (post.map enc)
section
variable {α:Type}{enc:α->List D}
@[go_sem] theorem a1b (pre:List α)(r:List PV)(post:List α):(fA enc pre r post).length=pre.length+1+post.length:=by
 simp[fA,aG];omega
theorem y7 (n:Nat):∀(l m:List (List PV)),cE n (l++m)=(cE n l&&cE n m)
 |[],m=>rfl
 |r::l,m=>by simp only[X9,cE,y7 n l m,_n]
theorem F9 (n:Nat)(pre:List α)(r:List PV)(post:List α):cE n (fA enc pre r post)=aq n r:=by
 simp only[fA,y7,cE,aC,Ys,YA]
theorem cK {A:Prop}(h:A:=by first|rfl|simp only[aH,eJ,aR,aq,cE,au,bu,aC,F9,cy,eB,Xx,XX,XL,Z8,decide_true,Yq,YA]):A:=h
theorem dn (k g:Nat)(d:D)(pre:List α)(r:List PV)(post:List α):gI k g d (fA enc pre r post)=fA enc pre (ij k g d r) post:=by
 simp only[fA,aT,gI,bW]
theorem lY (pre:List α)(r:List PV)(post:List α)(q:α):fA enc pre r post++[(enc q).map .d]=fA enc pre r (post++[q]):=by
 simp[fA,ab]
@[go_sem] theorem a0K (ρ:Nat->Nat)(pre:List α)(r:List PV)(post:List α):kO ρ (fA enc pre r post)=fA enc pre (jH ρ r) post:=by
 have app:∀(l m:List (List PV)),kO ρ (l++m)=kO ρ l++kO ρ m:=by
  intro l m;rw[fd,fd,fd,Xo]
 simp only[fA,app,kO,yv]
theorem Cm (f:PV->Option D):∀(l m:List (List PV)),du f (l++m)=match du f l,du f m with|some a,some b=>some (a++b)|_,_=>none
 |[],m=>by simp only[Yb,du];cases du f m<;>rfl
 |r::l,m=>by
  simp only[X9,du,Cm f l m];cases cI f r<;>cases du f l<;>cases du f m<;>rfl
@[go_sem] theorem WA (h:Nat->Chunk)(n:Nat)(pre:List α)(r:List PV)(post:List α):du (bx h n) (fA enc pre r post)=match cI (bx h n) r with|some d=>some (pre.map enc++d::post.map enc)|none=>none:=by
 simp only[fA,Cm,du,eO];cases cI (bx h n) r<;>rfl
@[go_sem] theorem a1c (pre:List α)(r:List PV)(post:List α):(fA enc pre r post)[pre.length]? =some r:=by
 unfold fA;rw[XH (by simp[aG])];simp[aG]
@[go_sem] theorem a1d (pre:List α)(r r':List PV)(post:List α):(fA enc pre r post).set pre.length r'=fA enc pre r' post:=by
 unfold fA;rw[Yu _ _ (by simp[aG])];simp[aG]
end
def dv {α:Type}(key:α->Int)(x:α)(l:List α):List α:=l.take (j8 key (key x) l)++x::l.drop (j8 key (key x) l)
theorem WB {α:Type}(key:α->Int)(t:Int)(l:List α):j8 key t l<=l.length:=List.findIdx_le_length
theorem gF {α:Type}(key:α->Int)(x:α)(l:List α):(dv key x l).Perm (l++[x]):=by
 unfold dv;have h:l++[x]=(l.take (j8 key (key x) l)++l.drop (j8 key (key x) l))++[x]:=by rw[YK]
 rw[h,XV];refine List.Perm.append_left _ ?_;exact(List.perm_append_singleton _ _).symm
theorem og {α:Type}{key:α->Int}{x y:α}{l:List α}:y∈dv key x l↔y=x\/y∈l:=by
 rw[(gF key x l).mem_iff];simp[or_comm]
theorem fL {α:Type}(key:α->Int)(x:α)(l:List α):(dv key x l).length=l.length+1:=by
 rw[(gF key x l).length_eq];simp
theorem im {α:Type}{key:α->Int}{x:α}{l:List α}(hs:l.Pairwise fun a b=>key a < key b)(hn:∀y∈l,key y≠key x):(dv key x l).Pairwise fun a b=>key a < key b:=by
 have Bu:∀y∈l.take (j8 key (key x) l),key y < key x:=by
  intro y hy;obtain⟨i,hi,rfl⟩:=X3.1 hy;rw[ZP];have:=List.not_of_lt_findIdx (show i < j8 key (key x) l by rw[Xp]at hi;omega);simp at this;exact this
 have Lz:∀y∈l.drop (j8 key (key x) l),key x < key y:=by
  intro y hy;have JZ:=Yc hy;obtain⟨i,hi,rfl⟩:=X3.1 hy;rw[List.getElem_drop]at JZ ⊢;rw[XS]at hi;have hlt:j8 key (key x) l < l.length:=aa;have h0:=List.findIdx_getElem (xs:=l) (p:=fun y=>decide (key x<=key y)) (w:=hlt);simp only[decide_eq_true_eq]at h0;change key x<=key (l[j8 key (key x) l]'hlt)at h0;have bH:=hn _ JZ;rcases ZG i with h|h
  ·subst h;simp only[XT]at bH ⊢;omega
  ·have:=XF.1 hs _ (j8 key (key x) l+i) hlt aa aa;omega
 unfold dv;rw[YV,YC];refine⟨hs.sublist (_m _ _),⟨Lz,hs.sublist (List.drop_sublist _ _)⟩,fun a ha b hb=>?_⟩;rcases X2.1 hb with rfl|hb
 ·exact Bu a ha
 ·have:=Bu a ha;have:=Lz b hb;omega
def Vpc.zero:Vpc:=⟨0,[],[]⟩
theorem Vpc.zero_le:aP (.agg [.v (.int .i64 0),.v (.slice none 0 0),.v (.slice none 0 0)]) (.agg (ax Vpc.zero)):=by repeat(first|exact aP.refl _|exact aP.nil _|(refine aP.tup ?_)|(refine aP.agg ?_ rfl)|exact trivial|(refine And.intro ?_ ?_))
structure VpcOK (v:Vpc):Prop where
 n4:v.ranges.length<=4
 n6:v.subs.length<=6
 n8:∀s∈v.subs,s.faces.length<=8/\∀f∈s.faces,f.addrs.length<=4
 id:cB v.id=true
 rr:v.ranges.Pairwise fun a b=>a.at_.at_ < b.at_.at_
 rs:v.subs.Pairwise fun a b=>a.id < b.id
 ranges:∀r∈v.ranges,eK r=true
 subs:∀s∈v.subs,nE v s=true
 ar:il [] (v.ranges.map (·.at_))=true
 as_:il [] (v.subs.map (·.at_))=true
theorem PU {v:Vpc}:bT v=0↔mh v=false/\rN v=true/\il [] (v.ranges.map (·.at_))=true/\il [] (v.subs.map (·.at_))=true:=by
 unfold bT;generalize il [] (v.ranges.map (·.at_))=A;generalize il [] (v.subs.map (·.at_))=B;cases mh v<;>cases rN v<;>cases A<;>cases B<;>simp
theorem aY {v:Vpc}(h:bT v=0):VpcOK v:=by
 obtain⟨h1,h2,h3,h4⟩:=PU.1 h;obtain⟨a,b,c⟩:=yZ h1;unfold rN at h2;simp only[Xt,XA,gE]at h2;exact⟨a,b,c,h2.1.1,h2.1.2.1,h2.1.2.2,h2.2.1,h2.2.2,h3,h4⟩
theorem jO {r:Rng}(h:eK r=true):r.at_.right=true:=by
 unfold eK at h;simp only[Xt,beq_iff_eq]at h;simp[Pfx.right,bF,h.2]
theorem y8 {p q:Pfx}(hp:p.right=true)(hq:q.right=true)(h:p.meets q=false):p.at_≠q.at_:=fun e=>by
 have b1:=p.hi_bd hp;have b2:=q.hi_bd hq;rw[ee.2 ⟨hp,hq,by omega,by omega⟩]at h;cases h
def nd (v:Vpc)(r:Rng):Int:=
 if chk r.at_.at_ r.at_.len≠0\/cB r.pool=false then 1 else
 if (v.ranges.any fun q=>q.at_.meets r.at_)=true then 6 else if v.ranges.length=4 then 2 else 0
def cJ (v:Vpc)(r:Rng):Vpc × Int:=
 if bT v≠0 then (Vpc.zero,bT v)else if nd v r≠0 then (Vpc.zero,nd v r)else ({v with ranges:=dv (·.at_.at_) r v.ranges},0)
theorem a5z {p:Prop}(h:p:=by
 refine pj func226 ntmps226 results226 ?_;exact bc;all_goals exact aP.refl _):p:=h
theorem gG (n lo hi:Int):ai prog 55 [.v (.int .i64 n),.v (.int .i64 lo),.v (.int .i64 hi)] (.v (.bool (decide (lo<=n)&&decide (n<=hi)))):=by
 refine pj func55 ntmps55 results55 ?_;exact bc;all_goals exact Kw lj
theorem y9 {α:Type}{p:α->Bool}{l:List α}{k:Nat}{x:α}(hx:l[k]? =some x)(hp:p x=true)(cg:(l.take k).all (fun y=>!p y)=true):cv p l=k:=
 gC hx hp fun y hy=>by have:=XA.1 cg y hy;simpa using this
theorem DP {α:Type}{p:α->Bool}{l:List α}(cg:(l.take l.length).all (fun y=>!p y)=true):cv p l= -1:=
 gD fun y hy=>by rw[Xq]at cg;have:=XA.1 cg y hy;simpa using this
theorem eC {α:Type}{p:α->Bool}{l:List α}{k:Nat}{x:α}(hx:l[k]? =some x)(cg:(l.take k).all p=true)(h:p x=true):(l.take (k+1)).all p=true:=by rw[mi hx,cg,h];rfl
theorem Cn (v:Vpc)(p:Pfx)(hl:v.ranges.length<=1000000000):ai prog 138 [.agg (ax v),.agg (aS p)] (.v (.bool (fJ v p))):=by
 obtain⟨R,hR⟩:∃R,R=fJ v p:=⟨_,rfl⟩;rw[<-hR];replace hR:=Xj hR;refine pj func138 ntmps138 results138 ?_;refine ap ?_<;>intros;refine bf ag am v.ranges (fun k=>(v.ranges.take k).all (fun r=>!(dZ p r.at_))=true) (fun k=>[(5,.d (.v (.int .i64 k))),(4,.d (.v (.bool false))),(3,.ptr 1 0),(2,.ptr 0 0)]) (fun _=>[.box 88 ((ax v).map .d),.box 23 ((aS p).map .d)]) rfl (wf) ?_ ?_
 ·intro k r hr hk hI C hC;have eo:(k:Int) < (v.ranges.length:Int):=aa;have db:=wi k aa;have hi:=yY p r.at_;rw[xK]at hi;replace hI:=Xj hI;cases h1:dZ p r.at_ with
  |true=>
   rw[h1]at hi;have hb:R=true:=by rw[hR.out];exact XU.2 ⟨r,Xl hr,h1⟩
   rw[hb];replace hb:=Xj hb;exact bc;all_goals exact aP.refl _
  |false=>
   rw[h1]at hi;have nL:=Xj (eC (p:=fun r:Rng=>!(dZ p r.at_)) hr hI.out (by rw[h1];rfl));refine ap ?_<;>intros;exact hC _ _ nL.out (wf)
 ·intro hI C;rw[Xq]at hI;have hb:R=false:=by rw[hR.out];unfold fJ;rw[Yh];intro x hx;have:=XA.1 hI x hx;simpa using this
  rw[hb];replace hb:=Xj hb;replace hI:=Xj hI;exact bc;all_goals exact aP.refl _
theorem Ga (s:Sbn)(x:Int):ai prog 226 [.agg (aX s),.v (.int .i64 x)] (.v (.bool (jh s.at_ x))):=by
 have hh:ai prog 224 [.agg (aS s.at_),.v (.int .i64 x)] (.v (.bool (me s.at_.at_ s.at_.len x))):=MT s.at_ x;cases h1:me s.at_.at_ s.at_.len x with
 |false=>
  have hr:jh s.at_ x=false:=by unfold jh;rw[qe,h1];rfl
  rw[h1]at hh;rw[hr];refine pj func226 ntmps226 results226 ?_;exact bc;all_goals exact aP.refl _
 |true=>
  have HO:=oe.1 h1;have pp:=PO s.at_ (by rw[<-Pfx.right];exact HO.1);have a2F:md s.at_.at_ s.at_.len=s.at_.hi - 1:=rfl;have hr:jh s.at_ x=((x !=s.at_.at_)&&(x !=s.at_.hi - 1)):=by
   unfold jh;rw[qe,h1,Ys,Yk];have:s.at_.hi=s.at_.at_+eX s.at_.len:=rfl;simp only[Xt,decide_eq_true_eq,bne_iff_ne];omega
  rw[a2F]at pp;rw[h1]at hh;rw[hr];have pp:ai prog 136 [.agg (aS s.at_)] (.v (.int .i64 (s.at_.hi - 1))):=pp;generalize s.at_.hi - 1=Z at*;cases h2:(x !=s.at_.at_)with
  |false=>exact a5z
  |true=>exact a5z
theorem MY (v:Vpc)(hl:v.subs.length<=9223372036854775807)(hf:∀s∈v.subs,s.faces.length<=9223372036854775807):ai prog 137 [.agg (ax v)] (.v (.bool (mh v))):=by
 obtain⟨R,hR⟩:∃R,R=mh v:=⟨_,rfl⟩;rw[<-hR];replace hR:=Xj hR;unfold mh at hR;cases h1:decide ((v.ranges.length:Int)>4)with
 |true=>
  have hb:R=true:=by rw[hR.out,h1];rfl
  rw[hb];replace hb:=Xj hb;refine pj func137 ntmps137 results137 ?_;exact bc;all_goals exact aP.refl _
 |false=>
  cases h2:decide ((v.subs.length:Int)>6)with
  |true=>
   have hb:R=true:=by rw[hR.out,h1,h2];rfl
   rw[hb];replace hb:=Xj hb;refine pj func137 ntmps137 results137 ?_;exact bc;all_goals exact aP.refl _
  |false=>
   have aQ:R=v.subs.any pr:=by rw[hR.out,h1,h2];rfl
   clear hR;replace aQ:=Xj aQ;refine pj func137 ntmps137 results137 ?_;refine ap ?_<;>intros;refine bf ag am v.subs (fun k=>(v.subs.take k).all (fun s=>!(pr s))=true) (fun k=>[(3,.d (.v (.int .i64 k))),(2,.d (.v (.bool false))),(1,.ptr 0 0)]) (fun _=>[.box 88 ((ax v).map .d)]) rfl (wf) ?_ ?_
   ·intro k s hs hk hI C hC;have eo:(k:Int) < (v.subs.length:Int):=aa;have db:=wi k aa;have gX:=hf s (Xl hs);have hmn:pr s=true->R=true:=fun h=>by rw[aQ.out];exact XU.2 ⟨s,Xl hs,h⟩
    have ec:pr s=false->(v.subs.take (k+1)).all (fun s=>!(pr s))=true:=fun h=>eC hs hI (by rw[h];rfl);have hmd:pr s=(decide ((s.faces.length:Int)>8)||s.faces.any rM):=rfl;replace hI:=Xj hI;replace ec:=Xj ec;cases h3:decide ((s.faces.length:Int)>8)with
    |true=>
     have hb:R=true:=hmn (by rw[hmd,h3];rfl);rw[hb];replace hb:=Xj hb;clear hmn hmd;exact bc;all_goals exact aP.refl _
    |false=>
     rw[h3,p']at hmd;replace hmn:=Xj hmn;replace hmd:=Xj hmd;refine ap ?_<;>intros;refine bf ag am s.faces (fun j=>(s.faces.take j).all (fun f=>!(rM f))=true) (fun j=>[(4,.d (.v (.int .i64 j))),(3,.d (.v (.int .i64 k))),(2,.d (.v (.bool false))),(1,.ptr 0 0)]) (fun _=>[.box 88 ((ax v).map .d)]) rfl (wf) ?_ ?_
     ·intro j f hfj hj hJ C2 j6;have lz:(j:Int) < (s.faces.length:Int):=aa;have nI:=wi j aa;replace hJ:=Xj hJ;cases h4:decide ((f.addrs.length:Int)>4)with
      |true=>
       have hb:R=true:=hmn.out (by rw[hmd.out];exact XU.2 ⟨f,Xl hfj,h4⟩);rw[hb];replace hb:=Xj hb;exact bc;all_goals exact aP.refl _
      |false=>
       have EP:=Xj (eC (p:=fun f:Fce=>!(rM f)) hfj hJ.out (by unfold rM;rw[h4];rfl));refine ap ?_<;>intros;exact j6 _ _ EP.out (wf)
     ·intro hJ C2;rw[Xq]at hJ;have nL:=ec.out (by rw[hmd.out,Yh];intro x hx;have:=XA.1 hJ x hx;simpa using this);replace hJ:=Xj hJ;replace nL:=Xj nL;refine ap ?_<;>intros;exact hC _ _ nL.out (wf)
   ·intro hI C;rw[Xq]at hI;have hb:R=false:=by rw[aQ.out,Yh];intro x hx;have:=XA.1 hI x hx;simpa using this
    rw[hb];replace hb:=Xj hb;replace hI:=Xj hI;exact bc;all_goals exact aP.refl _
theorem a3M {p:Prop}(h:p:=by
 rw[YD,ne_eq,fg];intro hr;obtain⟨hl,he⟩:=Xn.1 hy;obtain⟨hl1,he1⟩:=Xn.1 hx;have h1:=hr (k - 1) aa;simp only[show k - 1+1=k by omega,he,he1]at h1;omega):p:=h
theorem a4A {p:Prop}(h:p:=by
 intro j hj Ez;rcases XM (j+1) k with h1|h1
 ·exact h j hj h1
 ·obtain rfl:k=j+1:=aa;obtain⟨hl,he⟩:=Xn.1 hy;rw[he];exact hs _ aa (Xk aa)):p:=h
theorem IQ {s:Sbn}{f:Fce}(hf:f∈s.faces)(h:lB s.at_ f=false):dI s=false:=by
 unfold dI;rw[show s.faces.all (lB s.at_)=false from by rw[YW];exact⟨f,hf,by rw[h];simp⟩];rfl
theorem Gb {s:Sbn}{k:Nat}{x y:Fce}(h0:0 < k)(hx:s.faces[k - 1]? =some x)(hy:s.faces[k]? =some y)(h:x.id>=y.id):dI s=false:=by
 have:fK (fun f:Fce=>f.id) s.faces=false:=a3M
 unfold dI;simp only[this,Bool.and_false]
theorem IR {p:Pfx}{f:Fce}{k:Nat}{x y:Int}(h0:0 < k)(hx:f.addrs[k - 1]? =some x)(hy:f.addrs[k]? =some y)(h:x>=y):lB p f=false:=by
 have:fK (fun x=>x) f.addrs=false:=a3M
 unfold lB;simp[this]
theorem IS {s:Sbn}{k:Nat}{f:Fce}{a:Int}(hf:s.faces[k]? =some f)(ha:a∈f.addrs)(hd:a∈(s.faces.take k).flatMap (·.addrs)):dI s=false:=by
 have:¬(s.faces.flatMap (·.addrs)).Nodup:=by
  intro hn;rw[<-YK k s.faces,kR hf,YN,Zy,_l]at hn;exact hn.2.2 a hd a (N' _ ha) rfl
 unfold dI;simp[this]
theorem za {α:Type}{key:α->Int}{l:List α}{k:Nat}{y:α}(hy:l[k]? =some y)(h:∀j (h:j+1 < l.length),j+1 < k->key l[j] < key l[j+1])(hs:∀x,0 < k->l[k - 1]? =some x->key x < key y):∀j (h:j+1 < l.length),j+1 < k+1->key l[j] < key l[j+1]:=a4A
theorem Gc (s:Sbn)(h8:s.faces.length<=8)(h4:∀f∈s.faces,f.addrs.length<=4):ai prog 139 [.agg (aX s)] (.v (.bool (dI s))):=by
 obtain⟨R,hR⟩:∃R,R=dI s:=⟨_,rfl⟩;rw[<-hR];replace hR:=Xj hR;refine pj func139 ntmps139 results139 ?_;refine ap ?_<;>intros;refine bQ ag am (fun m e h=>∃(k g:Nat) (A:List Int),k<=s.faces.length/\A=(s.faces.take k).flatMap (·.addrs)/\A.length<=4*k/\A.Nodup/\(s.faces.take k).all (lB s.at_)=true/\(∀j (h:j+1 < s.faces.length),j+1 < k->s.faces[j].id < s.faces[j+1].id)/\m=s.faces.length - k/\
  e=[(4,.d (.v (.int .i64 k))),(3,.own 1 g),(2,.d (.v (.bool false))),(1,.ptr 0 0)]/\h=[.box 107 ((aX s).map .d),.row 3 1 g (ab (A.map cF))]) _ _ _ ⟨0,0,[],XD _,rfl,XD _,List.nodup_nil,rfl,fun j h h1=>by omega,rfl,rfl,rfl⟩ ((cZ (XD _) 3 3 1 rfl).trans (wf)) ?_
 rintro m e h ⟨k,g,A,hk,hA,hAl,mM,bo,EC,hm,rfl,rfl⟩ C hC;replace hm:=Xj hm;replace hA:=Xj hA;replace mM:=Xj mM;replace bo:=Xj bo;replace EC:=Xj EC;by_cases hlt:k < s.faces.length
 ·have eo:(k:Int) < (s.faces.length:Int):=aa;have db:=wi k aa;have C9:decide ((k:Int)>0)=true->IntKind.i64.wrap ((k:Int) - 1)=((k - 1:Nat):Int):=fun h=>by have:=of_decide_eq_true h;rw[IntKind.wrap_i64];omega
  obtain⟨f,hf⟩:∃f,s.faces[k]? =some f:=⟨_,Xk hlt⟩;obtain⟨y,hy⟩:∃y,s.faces[k - 1]? =some y:=⟨_,Xk aa⟩;have mY:=Xl hf;have gX:=h4 f mY;have hw:ai prog 55 [.v (.int .i64 f.id),.v (.int .i64 1),.v (.int .i64 65536)] (.v (.bool (cB f.id))):=gG _ _ _;have w9:(0 < k/\y.id>=f.id)->R=false:=fun h=>by rw[hR.out];exact Gb h.1 hy hf h.2
  have Bv:lB s.at_ f=false->R=false:=fun h=>by rw[hR.out];exact IQ mY h
  have RZ:∀a∈f.addrs,a∈A->R=false:=fun a h1 h2=>by rw[hR.out];exact IS hf h1 (by rw[<-hA.out];exact h2)
  have iK:lB s.at_ f=(cB f.id&&(!((f.addrs.length:Int)==0)&&(fK (fun x=>x) f.addrs&&f.addrs.all (jh s.at_)))):=rfl;replace w9:=Xj w9;replace Bv:=Xj Bv;replace RZ:=Xj RZ;replace iK:=Xj iK;cases b1:cB f.id with
  |false=>
   have hr:R=false:=Bv.out (by rw[iK.out,b1];rfl);rw[b1]at hw;rw[hr];replace hr:=Xj hr;exact bc;all_goals exact aP.refl _
  |true=>
   rw[b1]at hw;cases b2:((f.addrs.length:Int)==0)with
   |true=>
    have hr:R=false:=Bv.out (by rw[iK.out,b1,b2];rfl);rw[hr];replace hr:=Xj hr;exact bc;all_goals exact aP.refl _
   |false=>
    refine ft ?_ ?_ ?_ ?_ ?_ ?_ ?_ ?_<;>first|(with_reducible exact True.intro)|intros
    all_goals first
     |(exact Kw (w9.out (by clear hw hC;grind)).symm)
     |skip
    all_goals
     have ec:0 < k->y.id < f.id:=by clear hw hC;grind
     replace ec:=Xj ec;refine bQ ag am (fun m e h=>∃(j:Nat),j<=f.addrs.length/\(f.addrs.take j).all (jh s.at_)=true/\(∀i (h:i+1 < f.addrs.length),i+1 < j->f.addrs[i] < f.addrs[i+1])/\(f.addrs.take j).all (fun a=>!(A.contains a))=true/\m=f.addrs.length - j/\
      e=[(6,.d (.v (.int .i64 j))),(5,.ptr 2 0),(4,.d (.v (.int .i64 k))),(3,.own 1 g),(2,.d (.v (.bool false))),(1,.ptr 0 0)]/\h=[.box 107 ((aX s).map .d),.row 3 1 g (ab (A.map cF)),.box 110 ((cl f).map .d)]) _ _ _ ⟨0,XD _,rfl,fun j h h1=>by omega,rfl,rfl,rfl,rfl⟩ (wf) ?_
     rintro m2 e h ⟨j,hj,d9,Se,cg,iQ,rfl,rfl⟩ C2 j6;replace iQ:=Xj iQ;replace d9:=Xj d9;replace Se:=Xj Se;replace cg:=Xj cg;by_cases ro:j < f.addrs.length
     ·have lz:(j:Int) < (f.addrs.length:Int):=aa;have nI:=wi j aa;have Da:decide ((j:Int)>0)=true->IntKind.i64.wrap ((j:Int) - 1)=((j - 1:Nat):Int):=fun h=>by have:=of_decide_eq_true h;rw[IntKind.wrap_i64];omega
      obtain⟨a,ha⟩:∃a,f.addrs[j]? =some a:=⟨_,Xk ro⟩;obtain⟨b,hb⟩:∃b,f.addrs[j - 1]? =some b:=⟨_,Xk aa⟩;have ham:=Xl ha;have S0:=Ga s a;have Ew:(0 < j/\b>=a)->R=false:=fun h=>Bv.out (IR h.1 hb ha h.2);replace Ew:=Xj Ew;cases b3:jh s.at_ a with
      |false=>
       have hr:R=false:=Bv.out (by rw[iK.out,show f.addrs.all (jh s.at_)=false from by rw[YW];exact⟨a,ham,by rw[b3];simp⟩];simp);rw[b3]at S0;rw[hr];replace hr:=Xj hr;exact bc;all_goals exact aP.refl _
      |true=>
       rw[b3]at S0;refine ft ?_ ?_ ?_ ?_ ?_ ?_ ?_ ?_<;>first|(with_reducible exact True.intro)|intros
       all_goals first
        |(exact Kw (Ew.out (by clear hw hC j6 S0;grind)).symm)
        |skip
       all_goals
        have Db:0 < j->b < a:=by clear hw hC j6 S0;grind
        replace Db:=Xj Db;refine bf ag am A (fun q=>(A.take q).all (fun x=>!(x==a))=true) (fun q=>[(7,.d (.v (.int .i64 q))),(6,.d (.v (.int .i64 j))),(5,.ptr 2 0),(4,.d (.v (.int .i64 k))),(3,.own 1 g),(2,.d (.v (.bool false))),(1,.ptr 0 0)])
         (fun _=>[.box 107 ((aX s).map .d),.row 3 1 g (ab (A.map cF)),.box 110 ((cl f).map .d)]) rfl (wf) ?_ ?_
        ·intro q x hx hq hQ C3 S1;have hqI:(q:Int) < (A.length:Int):=aa;have iP:=wi q aa;replace hQ:=Xj hQ;cases b4:(x==a)with
         |true=>
          have hr:R=false:=RZ.out a ham (by rw[<-eq_of_beq b4];exact Xl hx);rw[hr];replace hr:=Xj hr;exact bc;all_goals exact aP.refl _
         |false=>
          have hQ2:=Xj (eC (p:=fun x:Int=>!(x==a)) hx hQ.out (by rw[b4];rfl));repeat' (first|(with_reducible refine And.intro ?_ ?_)|(with_reducible refine oS (fun _=>?_) (fun _=>?_))|(with_reducible refine ey (fun _=>?_) (fun _=>?_))|(with_reducible refine jL aJ)|simp -dsimp only[go_sem,seval, *,aX,cl,cF,hqI,iP,ha,hx,b4,undef]|((with_reducible refine jM ?_);simp -dsimp only[go_sem,seval,aX,cl,cF,hqI,iP,ha,hx,b4,undef];first|refine eA OE ny ?_|(refine ez gT ?_ ?_ ?_;(solve|(repeat(first|exact aP.refl _|exact aP.nil _|(refine aP.tup ?_)|(refine aP.agg ?_ rfl)|exact trivial|(refine And.intro ?_ ?_))));(solve|exact .inl rfl|exact .inr rfl)))|fail|omega|exact decide_eq_true aa|exact aP.refl _)
          exact S1 _ _ hQ2.out (wf)
        ·intro hQ C3;rw[Xq]at hQ;have Sf:A.contains a=false:=by
          rw[YD,ne_eq,Z3];intro hm;have:=XA.1 hQ a hm;simp at this
         replace hQ:=Xj hQ;replace Sf:=Xj Sf;refine ap ?_<;>intros;refine j6 _ _ _ _ _ ?_ ⟨j+1,ro,eC ha d9.out b3,za (key:=fun x:Int=>x) ha Se.out (fun x h0 hx=>by rw[hb]at hx;rw[<-XW.inj hx];exact Db.out h0),eC ha cg.out (by rw[Sf.out];rfl),rfl,rfl,rfl⟩ (wf);have:=iQ.out;omega
     ·obtain rfl:j=f.addrs.length:=aa;have d9:=d9.out;have cg:=cg.out;rw[Xq]at d9 cg;have lw:lB s.at_ f=true:=by
       rw[iK.out,b1,b2,d9,(fg f.addrs).2 (fun i hi=>Se.out i hi aa)];rfl
      have OA:A++f.addrs=(s.faces.take (k+1)).flatMap (·.addrs):=by rw[ak hf,YN,<-hA.out];simp
      have S2:f.addrs.Nodup:=by
       have h1:=(gE (key:=fun x:Int=>x) f.addrs).1 ((fg f.addrs).2 (fun i hi=>Se.out i hi aa));exact h1.imp (fun h=>by omega)
      have AF:(A++f.addrs).Nodup:=by
       rw[_l];refine⟨mM.out,S2,fun x hx y hy e=>?_⟩;subst e;have:=XA.1 cg x hy;rw[Z3.2 hx]at this;simp at this
      have xz:(A.length+f.addrs.length)*8<=140737488355328:=aa;replace cg:=Xj cg;replace d9:=Xj d9;replace lw:=Xj lw;replace OA:=Xj OA;replace S2:=Xj S2;replace AF:=Xj AF;refine ap ?_<;>intros;refine hC _ _ _ _ _ ?_ ⟨k+1,g+1,A++f.addrs,hlt,OA.out,by rw[Xv];omega,AF.out,eC hf bo.out lw.out,za (key:=fun f:Fce=>f.id) hf EC.out (fun x h0 hx=>by rw[hy]at hx;rw[<-XW.inj hx];exact ec.out h0),rfl,rfl,rfl⟩ (wf (hh:=(by simp only[aX,cl,Xo,Xm,Xr,<-aI];rfl)));have:=hm.out;omega
 ·obtain rfl:k=s.faces.length:=aa;have hr:R=true:=by
   have bo:=bo.out;have hA:=hA.out;rw[Xq]at bo hA;rw[hR.out];unfold dI;rw[bo,<-hA,(fg s.faces).2 (fun i hi=>EC.out i hi aa)];simp[mM.out]
  rw[hr];replace hr:=Xj hr;exact bc;all_goals exact aP.refl _
theorem Gd:∀(pre l:List Pfx),il pre l=true↔l.Pairwise (fun a b=>b.meets a=false)/\∀a∈pre,∀b∈l,b.meets a=false
 |pre,[]=>by simp[il]
 |pre,p::l=>by
  simp only[il,Xt,ZO,Yh,Bool.not_eq_true,Gd (pre++[p]) l,YC,X0,X2,List.not_mem_nil,or_false];constructor
  ·rintro⟨h1,h2,h3⟩;refine⟨⟨fun b hb=>h3 p (.inr rfl) b hb,h2⟩,fun a ha b hb=>?_⟩;rcases hb with rfl|hb
   ·exact h1 a ha
   ·exact h3 a (.inl ha) b hb
  ·rintro⟨⟨h1,h2⟩,h3⟩;refine⟨fun x hx=>h3 x hx p (.inl rfl),h2,fun a ha b hb=>?_⟩;rcases ha with ha|rfl
   ·exact h3 a ha b (.inr hb)
   ·exact h1 b hb
theorem qg {l:List Pfx}:il [] l=true↔l.Pairwise (fun a b=>b.meets a=false):=by
 rw[Gd];simp
theorem PW {l:List Pfx}(hr:∀p∈l,p.right=true)(hs:l.Pairwise fun a b=>a.at_ < b.at_)(ha:∀j (h:j+1 < l.length),l[j].meets l[j+1]=false):il [] l=true:=by
 rw[qg,XF];intro i j hi hj hij;rw[YD,ne_eq,ee];rintro⟨-,-,h1,h2⟩;have h3:=ha i aa;have r1:=hr l[i] (Ye hi);have r2:=hr l[i+1] (Ye aa);rw[YD,ne_eq,ee]at h3;have s1:=XF.1 hs i (i+1) hi aa aa;have s2:l[i+1].at_<=l[j].at_:=by
  rcases XM (i+1) j with h|h
  ·have:=XF.1 hs (i+1) j aa hj h;omega
  ·obtain rfl:j=i+1:=aa;exact ZW _
 have b2:=l[i+1].hi_bd r2;exact h3 ⟨r1,r2,by omega,by omega⟩
theorem PX {v:Vpc}(hm:mh v=false)(h:rN v=false\/il [] (v.ranges.map (·.at_))=false\/il [] (v.subs.map (·.at_))=false):bT v=1:=by
 unfold bT;rw[af (by simp[hm]),af];rintro h1;simp only[Xt]at h1;rcases h with h|h|h<;>simp[h]at h1
theorem Ge {l:List Pfx}{i j:Nat}{x y:Pfx}(hij:i < j)(hx:l[i]? =some x)(hy:l[j]? =some y)(h:x.meets y=true):il [] l=false:=by
 rw[YD,ne_eq,qg];intro hp;obtain⟨h1,rfl⟩:=Xn.1 hx;obtain⟨h2,rfl⟩:=Xn.1 hy;have:=XF.1 hp i j h1 h2 hij;rw[<-fI]at this h;unfold pq at this h;grind
theorem Gf {α:Type}{key:α->Int}{l:List α}{k:Nat}{x y:α}(h0:0 < k)(hx:l[k - 1]? =some x)(hy:l[k]? =some y)(h:key x>=key y):fK key l=false:=a3M
theorem KA {α:Type}{p:α->Bool}{l:List α}{x:α}(hx:x∈l)(h:p x=false):l.all p=false:=by
 rw[YW];exact⟨x,hx,by rw[h];simp⟩
theorem oh {v:Vpc}(h:cB v.id=false\/fK (fun r:Rng=>r.at_.at_) v.ranges=false\/fK (fun s:Sbn=>s.id) v.subs=false\/v.ranges.all eK=false\/v.subs.all (nE v)=false):rN v=false:=by
 unfold rN;rcases h with h|h|h|h|h<;>simp[h]
theorem Gg {l:List Rng}{k:Nat}{y:Rng}(hy:l[k]? =some y)(h:∀j (h:j+1 < l.length),j+1 < k->l[j].at_.at_ < l[j+1].at_.at_/\l[j].at_.meets l[j+1].at_=false)(hs:∀x,0 < k->l[k - 1]? =some x->x.at_.at_ < y.at_.at_/\x.at_.meets y.at_=false):∀j (h:j+1 < l.length),j+1 < k+1->l[j].at_.at_ < l[j+1].at_.at_/\l[j].at_.meets l[j+1].at_=false:=a4A
theorem MZ {v:Vpc}(hm:mh v=false)(h1:cB v.id=true)(h2:v.ranges.all eK=true)(h3:∀j (h:j+1 < v.ranges.length),v.ranges[j].at_.at_ < v.ranges[j+1].at_.at_/\v.ranges[j].at_.meets v.ranges[j+1].at_=false)(h4:v.subs.all (nE v)=true)(h5:∀j (h:j+1 < v.subs.length),v.subs[j].id < v.subs[j+1].id)(h6:∀(i j:Nat) (x y:Sbn),i < j->v.subs[i]? =some x->v.subs[j]? =some y->x.at_.meets y.at_=false):bT v=0:=by
 have r1:fK (fun r:Rng=>r.at_.at_) v.ranges=true:=(fg v.ranges).2 fun j hj=>(h3 j hj).1;have r2:fK (fun s:Sbn=>s.id) v.subs=true:=(fg v.subs).2 h5;rw[PU];refine⟨hm,by unfold rN;rw[h1,r1,r2,h2,h4];rfl,?_,?_⟩
 ·refine PW (fun p hp=>?_) ?_ fun j hj=>?_
  ·obtain⟨r,hr,rfl⟩:=XN.1 hp;exact jO (XA.1 h2 r hr)
  ·rw[Y8];exact(gE v.ranges).1 r1
  ·simp only[XB]at hj;simp only[B'];exact(h3 j hj).2
 ·rw[qg,Y8,XF];intro i j hi hj hij;have:=h6 i j _ _ hij (Xk hi) (Xk hj);rw[<-fI]at this ⊢;unfold pq at this ⊢;grind
theorem io (v:Vpc)(hl:v.subs.length<=9223372036854775807)(hf:∀s∈v.subs,s.faces.length<=9223372036854775807):ai prog 73 [.agg (ax v)] (.v (.int .i64 (bT v))):=by
 have AH:=MY v hl hf;clear hl hf;cases hm:mh v with
 |true=>
  rw[hm]at AH;have hr:bT v=2:=by unfold bT;rw[aj hm]
  rw[hr];refine pj func73 ntmps73 results73 ?_;exact bc
 |false=>
 obtain⟨h4,h6,h8⟩:=yZ hm;rw[hm]at AH;have hid:ai prog 55 [.v (.int .i64 v.id),.v (.int .i64 1),.v (.int .i64 65536)] (.v (.bool (cB v.id))):=gG _ _ _;have dL:=Xj (fun h=>PX hm h);have a1L:=Xj (fun a b c d e f=>MZ hm a b c d e f);replace h8:=Xj h8;replace hm:=Xj hm;obtain⟨R,hR⟩:∃R,R=bT v:=⟨_,rfl⟩;rw[<-hR];replace hR:=Xj hR;cases b1:cB v.id with
 |false=>
  have hr:R=1:=by rw[hR.out];exact dL.out (.inl (oh (.inl b1)))
  rw[b1]at hid;rw[hr];replace hr:=Xj hr;refine pj func73 ntmps73 results73 ?_;exact bc
 |true=>
 rw[b1]at hid;refine pj func73 ntmps73 results73 ?_;refine ap ?_<;>intros;clear AH hid;refine bQ ag am (fun m e h=>∃(k:Nat),k<=v.ranges.length/\(v.ranges.take k).all eK=true/\(∀j (h:j+1 < v.ranges.length),j+1 < k->v.ranges[j].at_.at_ < v.ranges[j+1].at_.at_/\v.ranges[j].at_.meets v.ranges[j+1].at_=false)/\m=v.ranges.length - k/\e=[(3,.d (.v (.int .i64 k))),(2,.d (.v (.int .i64 0))),(1,.ptr 0 0)]/\
  h=[.box 88 ((ax v).map .d)]) _ _ _ ⟨0,XD _,rfl,fun j h h1=>by omega,rfl,rfl,rfl⟩ (wf) ?_
 rintro m e h ⟨k,hk,bo,Og,hm0,rfl,rfl⟩ C hC;replace hm0:=Xj hm0;replace bo:=Xj bo;replace Og:=Xj Og;by_cases hlt:k < v.ranges.length
 ·have eo:(k:Int) < (v.ranges.length:Int):=aa;have db:=wi k aa;have C9:decide ((k:Int)>0)=true->IntKind.i64.wrap ((k:Int) - 1)=((k - 1:Nat):Int):=fun h=>by have:=of_decide_eq_true h;rw[IntKind.wrap_i64];omega
  obtain⟨r,hr⟩:∃r,v.ranges[k]? =some r:=⟨_,Xk hlt⟩;obtain⟨y,hy⟩:∃y,v.ranges[k - 1]? =some y:=⟨_,Xk aa⟩;have xU:=Xl hr;have hw:ai prog 55 [.v (.int .i64 r.pool),.v (.int .i64 1),.v (.int .i64 65536)] (.v (.bool (cB r.pool))):=gG _ _ _;have HO:ai prog 134 [.agg (aS r.at_)] (.v (.bool (chk r.at_.at_ r.at_.len==0))):=yX r.at_;have pL:=su y.at_ r.at_;rw[fI]at pL;have rB:eK r=(cB r.pool&&(chk r.at_.at_ r.at_.len==0)):=rfl;have bL:eK r=false->R=1:=fun h=>by rw[hR.out];exact dL.out (.inl (oh (.inr (.inr (.inr (.inl (KA xU h)))))))
  have w9:0 < k/\y.at_.at_>=r.at_.at_->R=1:=fun h=>by rw[hR.out];exact dL.out (.inl (oh (.inr (.inl (Gf (key:=fun r:Rng=>r.at_.at_) h.1 hy hr h.2)))))
  have OB:0 < k/\y.at_.meets r.at_=true->R=1:=fun h=>by
   rw[hR.out];exact dL.out (.inr (.inl (Ge (i:=k - 1) (j:=k) aa (by rw[Xy,hy];rfl) (by rw[Xy,hr];rfl) h.2)))
  replace bL:=Xj bL;replace w9:=Xj w9;replace OB:=Xj OB;cases b2:eK r with
  |false=>
   have h1:R=1:=bL.out b2;rw[b2]at rB;rw[h1];replace h1:=Xj h1;cases b3:cB r.pool with
   |false=>
    rw[b3]at hw;clear rB;exact bc;all_goals exact aP.refl _
   |true=>
    rw[b3,Ys]at rB;rw[b3]at hw;have b4:=rB.symm;rw[b4]at HO;clear rB;replace b4:=Xj b4;exact bc;all_goals exact aP.refl _
  |true=>
   rw[b2]at rB;obtain⟨b3,b4⟩:=Bool.and_eq_true_iff.1 rB.symm;rw[b3]at hw;rw[b4]at HO;clear rB;replace b3:=Xj b3;replace b4:=Xj b4;cases b5:y.at_.meets r.at_ with
   |true=>
    rw[b5]at pL;refine ft ?_ ?_ ?_ ?_ ?_ ?_ ?_ ?_<;>first|(with_reducible exact True.intro)|intros
    all_goals first
     |(exact tV (OB.out (by clear hw hC HO pL;grind)).symm)
     |(refine hC _ _ _ _ _ ?_ ⟨k+1,hlt,eC hr bo.out b2,Gg hr Og.out (fun x h0 hx=>?_),rfl,rfl,rfl⟩ (wf);(have:=hm0.out;omega);exfalso;clear hw hC HO pL;grind)
   |false=>
    rw[b5]at pL;refine ft ?_ ?_ ?_ ?_ ?_ ?_ ?_ ?_<;>first|(with_reducible exact True.intro)|intros
    all_goals first
     |(exact tV (w9.out (by clear hw hC HO pL;grind)).symm)
     |(refine hC _ _ _ _ _ ?_ ⟨k+1,hlt,eC hr bo.out b2,Gg hr Og.out (fun x h0 hx=>?_),rfl,rfl,rfl⟩ (wf);(have:=hm0.out;omega);rw[hy]at hx;rw[<-XW.inj hx];exact⟨by clear hw hC HO pL;grind,b5⟩)
 ·obtain rfl:k=v.ranges.length:=aa;have bo:=bo.out;rw[Xq]at bo;have a1M:=Xj (fun j hj=>Og.out j hj aa);replace bo:=Xj bo;clear Og;refine ap ?_<;>intros;refine bQ ag am (fun m e h=>∃(k:Nat),k<=v.subs.length/\(v.subs.take k).all (nE v)=true/\(∀j (h:j+1 < v.subs.length),j+1 < k->v.subs[j].id < v.subs[j+1].id)/\(∀(i j:Nat) (x y:Sbn),i < j->j < k->v.subs[i]? =some x->v.subs[j]? =some y->x.at_.meets y.at_=false)/\m=v.subs.length - k/\e=[(5,.d (.v (.int .i64 k))),(2,.d (.v (.int .i64 0))),(1,.ptr 0 0)]/\
   h=[.box 88 ((ax v).map .d)]) _ _ _ ⟨0,XD _,rfl,fun j h h1=>by omega,fun i j x y h1 h2=>by omega,rfl,rfl,rfl⟩ (wf) ?_
  rintro m2 e h ⟨k,jV,mN,EC,Vj,iQ,rfl,rfl⟩ C2 j6;replace iQ:=Xj iQ;replace mN:=Xj mN;replace EC:=Xj EC;replace Vj:=Xj Vj;by_cases xB:k < v.subs.length
  ·have eo:(k:Int) < (v.subs.length:Int):=aa;have db:=wi k aa;have C9:decide ((k:Int)>0)=true->IntKind.i64.wrap ((k:Int) - 1)=((k - 1:Nat):Int):=fun h=>by have:=of_decide_eq_true h;rw[IntKind.wrap_i64];omega
   obtain⟨s,hs⟩:∃s,v.subs[k]? =some s:=⟨_,Xk xB⟩;obtain⟨y,hy⟩:∃y,v.subs[k - 1]? =some y:=⟨_,Xk aa⟩;have lR:=Xl hs;have hw:ai prog 55 [.v (.int .i64 s.id),.v (.int .i64 1),.v (.int .i64 65536)] (.v (.bool (cB s.id))):=gG _ _ _;have Sg:=Cn v s.at_ aa;have Vk:=Gc s (h8.out s lR).1 (h8.out s lR).2;have rU:nE v s=(cB s.id&&(fJ v s.at_&&dI s)):=rfl;have bL:nE v s=false->R=1:=fun h=>by rw[hR.out];exact dL.out (.inl (oh (.inr (.inr (.inr (.inr (KA lR h)))))))
   have w9:0 < k/\y.id>=s.id->R=1:=fun h=>by rw[hR.out];exact dL.out (.inl (oh (.inr (.inr (.inl (Gf (key:=fun s:Sbn=>s.id) h.1 hy hs h.2))))))
   have OB:∀(j:Nat) (x:Sbn),j < k->v.subs[j]? =some x->x.at_.meets s.at_=true->R=1:=fun j x hj hx h=>by
    rw[hR.out];exact dL.out (.inr (.inr (Ge (i:=j) (j:=k) hj (by rw[Xy,hx];rfl) (by rw[Xy,hs];rfl) h)))
   replace bL:=Xj bL;replace w9:=Xj w9;replace OB:=Xj OB;replace rU:=Xj rU;cases b3:cB s.id with
   |false=>
    have h1:R=1:=bL.out (by rw[rU.out,b3];rfl);rw[h1];replace h1:=Xj h1;rw[b3]at hw;exact bc;all_goals exact aP.refl _
   |true=>
    rw[b3]at hw;cases b4:fJ v s.at_ with
    |false=>
     have h1:R=1:=bL.out (by rw[rU.out,b3,b4];rfl);rw[h1];replace h1:=Xj h1;rw[b4]at Sg;exact bc;all_goals exact aP.refl _
    |true=>
     rw[b4]at Sg;cases b5:dI s with
     |false=>
      have h1:R=1:=bL.out (by rw[rU.out,b3,b4,b5];rfl);rw[h1];replace h1:=Xj h1;rw[b5]at Vk;exact bc;all_goals exact aP.refl _
     |true=>
      rw[b5]at Vk;have b6:nE v s=true:=by rw[rU.out,b3,b4,b5];rfl
      replace b6:=Xj b6;refine ft ?_ ?_ ?_ ?_ ?_ ?_ ?_ ?_<;>first|(with_reducible exact True.intro)|intros
      all_goals first
       |(exact tV (w9.out (by clear hw hC j6 Sg Vk;grind)).symm)
       |skip
      all_goals
       have ec:0 < k->y.id < s.id:=by clear hw hC j6 Sg Vk;grind
       replace ec:=Xj ec;refine tJ ag am k (fun j=>∀(i:Nat) (x:Sbn),i < j->v.subs[i]? =some x->x.at_.meets s.at_=false) (fun j=>[(7,.d (.v (.int .i64 j))),(6,.ptr 1 0),(5,.d (.v (.int .i64 k))),(2,.d (.v (.int .i64 0))),(1,.ptr 0 0)]) (fun _=>[.box 88 ((ax v).map .d),.box 107 ((aX s).map .d)]) (fun i x h=>absurd h (YH _)) (wf) ?_ ?_
       ·intro j Ez hJ C3 S1;have lz:(j:Int) < (k:Int):=aa;have nI:=wi j aa;obtain⟨x,hx⟩:∃x,v.subs[j]? =some x:=⟨_,Xk aa⟩;have pL:=su x.at_ s.at_;rw[fI]at pL;cases b7:x.at_.meets s.at_ with
        |true=>
         have h1:R=1:=OB.out j x Ez hx b7;rw[h1];replace h1:=Xj h1;replace hJ:=Xj hJ;rw[b7]at pL;exact bc;all_goals exact aP.refl _
        |false=>
         have EP:∀(i:Nat) (x:Sbn),i < j+1->v.subs[i]? =some x->x.at_.meets s.at_=false:=by
          intro i x' hi hx';rcases XM i j with h|h
          ·exact hJ i x' h hx'
          ·obtain rfl:i=j:=aa;rw[hx]at hx';rw[<-XW.inj hx'];exact b7
         replace EP:=Xj EP;replace hJ:=Xj hJ;rw[b7]at pL;refine ap ?_<;>intros;exact S1 _ _ EP.out (wf)
       ·intro hJ C3;replace hJ:=Xj hJ;refine ap ?_<;>intros;refine j6 _ _ _ _ _ ?_ ⟨k+1,xB,eC hs mN.out b6.out,za (key:=fun s:Sbn=>s.id) hs EC.out (fun x h0 hx=>by rw[hy]at hx;rw[<-XW.inj hx];exact ec.out h0),fun i j x z h1 h2 hx hz=>?_,rfl,rfl,rfl⟩ (wf)
        ·have:=iQ.out;omega
        ·rcases XM j k with h|h
         ·exact Vj.out i j x z h1 h hx hz
         ·obtain rfl:j=k:=aa;rw[hs]at hz;rw[<-XW.inj hz];exact hJ.out i x h1 hx
  ·obtain rfl:k=v.subs.length:=aa;have h1:R=0:=by
    have mN:=mN.out;rw[Xq]at mN;rw[hR.out];refine a1L.out b1 bo.out a1M.out mN (fun j hj=>EC.out j hj aa) (fun i j x y hij hx hy=>Vj.out i j x y hij ?_ hx hy);exact(Xn.1 hy).1
   rw[h1];replace h1:=Xj h1;exact bc;all_goals exact aP.refl _
def ml (ents:List (List Int × Int)):Nat->Int->Int->Prop
 |0,x,r=>lV ents [x]=some x/\r=x
 |n+1,x,r=>∃y,lV ents [x]=some y/\y≠x/\ml ents n y r
theorem DQ (ents:List (List Int × Int))(n:Nat)(x r:Int)(h:ml ents n x r):
 MSpec prog 218 [.mref 0,.d (.v (.int .i64 x))] [.mp 1 false ents] (.d (.v (.int .i64 r))) [.mp 1 false ents]:=by
 refine mj func218 ntmps218 results218 ?_;refine ap ?_<;>intros;refine bQ ag am (fun m e h=>∃(y:Int),ml ents m y r/\e=[(4,.d (.v (.int .i64 0))),(1,.d (.v (.int .i64 y))),(0,.mref 0)]/\h=[.mp 1 false ents]) _ _ _ ⟨x,h,rfl,rfl⟩ (wf) ?_;rintro m e h ⟨y,hy,rfl,rfl⟩ C hC;cases m with
 |zero=>
  obtain⟨h1,rfl⟩:=hy;refine ap ?_<;>intros;all_goals exact bn rfl rfl
 |succ m=>
  obtain⟨z,h1,h2,h3⟩:=hy;have bH:(z !=y)=true:=by simpa using h2
  replace h3:=Xj h3;replace h2:=Xj h2;refine ap ?_<;>intros;exact hC _ _ _ _ _ (Nat.lt_succ_self _) ⟨z,h3.out,rfl,rfl⟩ (wf)
def dR (v w:Vpc):Bool:=v.ranges.any fun r=>w.ranges.any fun q=>r.at_.meets q.at_
theorem M1 (q r:Rng):ai prog 271 [.agg (bE q),.ept (bE r)] (.v (.bool (r.at_.meets q.at_))):=by
 have hm:ai prog 124 [.agg (aS r.at_),.agg (aS q.at_)] (.v (.bool (r.at_.meets q.at_))):=qV _ _;refine pj func271 ntmps271 results271 ?_;exact bc
theorem PY (r:Rng)(w:Vpc)(hw:w.ranges.length<=1000000000):ai prog 270 [.agg (bE r),.ept (ax w)] (.v (.bool (w.ranges.any fun q=>r.at_.meets q.at_))):=by
 have hc:=oU nZ (fun q=>r.at_.meets q.at_) w.ranges 271 [.ept (bE r)] hw (fun q _=>M1 q r);refine pj func270 ntmps270 results270 ?_;exact bc
theorem TX (v w:Vpc)(hv:v.ranges.length<=1000000000)(hw:w.ranges.length<=1000000000):ai prog 219 [.agg (ax v),.agg (ax w)] (.v (.bool (dR v w))):=by
 have hc:=oU nZ (fun r=>w.ranges.any fun q=>r.at_.meets q.at_) v.ranges 270 [.ept (ax w)] hv (fun r _=>PY r w hw);refine pj func219 ntmps219 results219 ?_;exact bc
def Gh:List Int->Int
 |[]=>0
 |x::l=>if x=0 then Gh l else x
theorem PZ {l:List Int}{k:Nat}{x:Int}(h:l[k]? =some x):Gh (l.drop k)=if x=0 then Gh (l.drop (k+1))else x:=by rw[kR h,Gh]
theorem a2q (l:List Int)(hl:l.length<=1000000000):ai prog 216 [.sl 1 (l.map cF)] (.v (.int .i64 (Gh l))):=by
 obtain⟨R,hR⟩:∃R,R=Gh l:=⟨_,rfl⟩;rw[<-hR];replace hR:=Xj hR;refine pj func216 ntmps216 results216 ?_;refine ap ?_<;>intros;refine bf ag am l (fun k=>Gh l=Gh (l.drop k)) (fun k=>[(8,.d (.v (.int .i64 k))),(7,.d (.v (.int .i64 l.length))),(6,.d (.sl 1 (l.map cF))),(3,.d (.v (.int .i64 0))),(2,.d (.v (.int .i64 0)))]) (fun _=>[]) rfl (wf) ?_ ?_
 ·intro k x hx hk hI C hC;have eo:(k:Int) < (l.length:Int):=aa;have db:=wi k aa;rw[PZ hx]at hI;by_cases h0:x=0
  ·rw[aj h0]at hI;have bH:(x !=0)=false:=by simp[h0]
   replace hI:=Xj hI;replace h0:=Xj h0;refine ap ?_<;>intros;exact hC _ _ hI.out (wf)
  ·rw[af h0]at hI;have bH:(x !=0)=true:=by simpa using h0
   have hr:R=x:=by rw[hR.out,hI]
   rw[hr];replace hr:=Xj hr;replace hI:=Xj hI;replace h0:=Xj h0;exact bc;all_goals exact aP.refl _
 ·intro hI C;rw[Zc]at hI;have hr:R=0:=by rw[hR.out,hI];rfl
  rw[hr];replace hr:=Xj hr;replace hI:=Xj hI;exact bc;all_goals exact aP.refl _
theorem mt {p:Prop}(h:p:=by
 rintro m e h ⟨i,j,hij,hj,j0,lh,rfl,rfl,rfl⟩ CL oH;by_cases hlt:i < j
 ·obtain⟨q,hq⟩:∃q,q=(i+j) / 2:=⟨_,rfl⟩;have vZ:q < l.length:=aa;obtain⟨x,hx⟩:∃x,l[q]? =some x:=⟨_,Xk vZ⟩;have pE:l[q]=x:=by rw[Xk vZ]at hx;exact XW.inj hx
  have ed:(i:Int) < (j:Int):=aa;have ci:IntKind.i64.wrap ((i:Int)+(j:Int))=((i+j:Nat):Int):=by rw[IntKind.wrap_i64];omega
  have cj:IntKind.u64.wrap ((i+j:Nat):Int)=((i+j:Nat):Int):=by rw[yQ];omega
  have Of:(((i+j:Nat):Int)).fdiv (2 ^ min 1 64)=(q:Int):=by
   rw[hq,show (min 1 64:Nat)=1 from rfl,_y,Int.pow_zero,Int.one_mul,ZZ _ aa];omega
  have rl:IntKind.i64.wrap (q:Int)=(q:Int):=by rw[IntKind.wrap_i64];omega
  have ED:=wi q aa;have bB:=cU x;have jd:=XG (YZ (cU x));have lg:=hc x (Xl hx);have JS:=tL (key x) t;have hqd:i<=q/\q < j:=aa;replace hq:=Xj hq;by_cases hk:key x < t
  ·have eo:decide (key x < t)=true:=by simpa using hk
   refine ap ?_<;>intros;refine oH _ _ _ _ _ ?_ ⟨q+1,j,by omega,hj,?_,lh,rfl,rfl,rfl⟩ (wf (x:=[]) (hh:=rfl) (he:=⟨rfl,rfl,rfl,rfl,rfl,rfl,rfl,rfl,trivial⟩))
   ·omega
   ·intro q' hq' HD;rcases XM q' q with h1|h1
    ·have:=XF.1 hs q' q hq' vZ h1;rw[pE]at this;omega
    ·obtain rfl:q'=q:=aa;rw[pE];exact hk
  ·have eo:decide (key x < t)=false:=by simpa using hk
   refine ap ?_<;>intros;refine oH _ _ _ _ _ ?_ ⟨i,q,by omega,by omega,j0,?_,rfl,rfl,rfl⟩ (wf (x:=[]) (hh:=rfl) (he:=⟨rfl,rfl,rfl,rfl,rfl,rfl,rfl,rfl,trivial⟩))
   ·omega
   ·intro q' hq' HD;rcases XM q q' with h1|h1
    ·have:=XF.1 hs q q' vZ hq' h1;rw[pE]at this;omega
    ·obtain rfl:q'=q:=aa;rw[pE];omega
 ·obtain rfl:i=j:=aa;have kh:=so hj j0 lh;have ux:tM key t l=match l[i]? with|some x=>key x==t|none=>false:=by unfold tM;rw[kh];all_goals(cases l[i]? <;>rfl)
  replace kh:=Xj kh;replace ux:=Xj ux;by_cases d9:i < l.length
  ·obtain⟨x,hx⟩:∃x,l[i]? =some x:=⟨_,Xk d9⟩;have Sh:decide ((i:Int) < (l.length:Int))=true:=by simpa using d9
   have bB:=cU x;have jd:=XG (YZ (cU x));have lg:=hc x (Xl hx);have hcz:=vl (key x) t;refine ap ?_<;>intros;all_goals rw[ux.out,hx,kh.out]
   all_goals exact aP.refl _
  ·have Sh:decide ((i:Int) < (l.length:Int))=false:=by simpa using d9
   refine ap ?_<;>intros;all_goals rw[ux.out,kh.out,XR aa]
   all_goals exact aP.refl _):p:=h
theorem a4x {p:Prop}(h:p:=by
 exact wf (x:=[]) (hh:=rfl) (he:=⟨rfl,rfl,rfl,rfl,rfl,rfl,rfl,rfl,trivial⟩)):p:=h
def tX (l m:Lnk):Int:=Gh [eQ l.a m.a,eQ l.b m.b]
theorem TY (l m:Lnk):ai prog 127 [.agg (cP l),.agg (cP m)] (.v (.int .i64 (tX l m))):=by
 have h1:=od l.a m.a;have h2:=od l.b m.b;have h3:=a2q [eQ l.a m.a,eQ l.b m.b] ah;simp only[Xm,Xr,cF]at h3;unfold tX;generalize eQ l.a m.a=A at*;generalize eQ l.b m.b=B at*;refine pj func127 ntmps127 results127 ?_;exact bc
def fY (a b:Int):Lnk:=⟨if b < a then b else a,if a < b then b else a⟩
theorem xL (v:Vpc)(id:Int):ai prog 215 [.agg (ax v),.v (.int .i64 id)] (.v (.int .i64 (eQ v.id id))):=by
 have h1:=od v.id id;refine pj func215 ntmps215 results215 ?_;exact bc
theorem tY {α:Type}{enc:α->List D}(cU:∀x,(enc x).length=3)(key:α->Int)(l:List α)(t:Int)(g:Nat)(caps:List D)(hl:l.length<=1000000000)(hs:l.Pairwise fun a b=>key a < key b)(hc:∀x∈l,ai prog g (.agg (enc x):: .v (.int .i64 t)::caps) (.v (.int .i64 (eQ (key x) t)))):
 ai prog 214 [.sl 3 (l.map enc),.v (.int .i64 t),.clo g caps] (.tup [.v (.int .i64 (j8 key t l)),.v (.bool (tM key t l))]):=by
 refine pj func214 ntmps214 results214 ?_;refine ap ?_<;>intros;refine bQ ag am (fun m e h=>∃i j:Nat,i<=j/\j<=l.length/\(∀q (hq:q < l.length),q < i->key l[q] < t)/\(∀q (hq:q < l.length),j<=q->t<=key l[q])/\m=j - i/\
  e=[(10,.d (.v (.int .i64 j))),(9,.d (.v (.int .i64 i))),(8,.d (.v (.int .i64 l.length))),(7,.d (.v (.bool false))),(6,.d (.v (.int .i64 0))),(2,.d (.clo g caps)),(1,.d (.v (.int .i64 t))),(0,.d (.sl 3 (l.map enc)))]/\h=[]) _ _ _ ⟨0,l.length,XD _,Xz _,fun q hq h=>absurd h (YH _),fun q hq h=>by omega,rfl,rfl,rfl⟩ ?_ ?_
 ·exact a4x
 ·exact mt
def fV (n:Net)(id:Int):Option Vpc:=n.vpcs.find? fun v=>v.id==id
@[go_sem] def WC (o:Option Vpc):D:=match o with|some v=> .tup [.ept (ax v),.v (.bool true)]|none=> .tup [.v (.pointer none),.v (.bool false)]
theorem P0 {l:List Vpc}{id:Int}(hs:l.Pairwise fun a b=>a.id < b.id){v:Vpc}(hv:l[j8 (fun v:Vpc=>v.id) id l]? =some v)(he:v.id=id):l.find? (fun v=>v.id==id)=some v:=by
 rw[Zk];obtain⟨hlt,hg⟩:=Xn.1 hv;refine⟨by simpa using he,_,hlt,hg,fun j hj=>?_⟩;have:=XF.1 hs j _ aa hlt hj;rw[hg]at this;simp;omega
theorem TZ {l:List Vpc}{id:Int}(hs:l.Pairwise fun a b=>a.id < b.id)(h:tM (fun v:Vpc=>v.id) id l=false):l.find? (fun v=>v.id==id)=none:=by
 rw[Yr];intro v hv he;have he2:v.id=id:=by simpa using he
 obtain⟨j,hj,rfl⟩:=X3.1 hv;have h1:j8 (fun v:Vpc=>v.id) id l=j:=so aa (fun q hq hqj=>by
  have:=XF.1 hs q j hq hj hqj;show l[q].id < id;omega) (fun q hq hjq=>by
  show id<=l[q].id;rcases XM j q with h|h
  ·have:=XF.1 hs j q hj hq h;omega
  ·obtain rfl:q=j:=aa;omega)
 unfold tM at h;rw[h1,Xk hj]at h;simp[he2]at h
@[go_sem] def WD (o:Option Vpc):PV:= .d (WC o)
theorem Gi (n:Net)(id:Int)(hl:n.vpcs.length<=1000000000)(hs:n.vpcs.Pairwise fun a b=>a.id < b.id):MSpec prog 126 [.ptr 0 0,.d (.v (.int .i64 id))] [.box 34 ((cQ n).map .d)] (WD (fV n id)) [.box 34 ((cQ n).map .d)]:=by
 have hb:=tY jI (fun v:Vpc=>v.id) n.vpcs id 215 [] hl hs (fun v _=>xL v id);unfold fV;cases hB:tM (fun v:Vpc=>v.id) id n.vpcs with
 |false=>
  rw[TZ hs hB];rw[hB]at hb;clear hs;refine mj func126 ntmps126 results126 ?_;refine ap ?_<;>intros;all_goals exact bn rfl rfl
 |true=>
  obtain⟨v,hv,he⟩:∃v,n.vpcs[j8 (fun v:Vpc=>v.id) id n.vpcs]? =some v/\v.id=id:=by
   unfold tM at hB;cases hq:n.vpcs[j8 (fun v:Vpc=>v.id) id n.vpcs]? with
   |none=>rw[hq]at hB;cases hB
   |some v=>rw[hq]at hB;exact⟨v,rfl,by simpa using hB⟩
  rw[P0 hs hv he];rw[hB]at hb;clear hs;replace he:=Xj he;have hlt:=(Xn.1 hv).1;generalize j8 (fun v:Vpc=>v.id) id n.vpcs=k at*;refine mj func126 ntmps126 results126 ?_;refine ap ?_<;>intros;all_goals exact bn rfl rfl
theorem KB {ents:List (List Int × Int)}{a b r:Int}(hb:lV ents [b]=some b)(hr:r≠b):∀{n:Nat}{x:Int},ml ents n x r->ml (nT ents [b] a) n x r
 |0,x,h=>by
  obtain⟨h1,rfl⟩:=h;exact⟨by rw[iN,af (by simpa using fun e=>hr e.symm)];exact h1,rfl⟩
 |n+1,x,h=>by
  obtain⟨y,h1,h2,h3⟩:=h;have hx:b≠x:=fun e=>by subst e;rw[hb]at h1;exact h2 (XW.inj h1).symm
  exact⟨y,by rw[iN,af (by simpa using hx)];exact h1,h2,KB hb hr h3⟩
theorem Gj {ents:List (List Int × Int)}{a b:Int}(ha:lV ents [a]=some a)(hb:lV ents [b]=some b)(iA:a≠b):∀{n:Nat}{x:Int},ml ents n x b->ml (nT ents [b] a) (n+1) x a
 |0,x,h=>by
  obtain⟨h1,rfl⟩:=h;exact⟨a,by rw[iN,aj rfl],iA,by rw[iN,af (by simpa using fun e=>iA e.symm)];exact ha,rfl⟩
 |n+1,x,h=>by
  obtain⟨y,h1,h2,h3⟩:=h;have hx:b≠x:=fun e=>by subst e;rw[hb]at h1;exact h2 (XW.inj h1).symm
  exact⟨y,by rw[iN,af (by simpa using hx)];exact h1,h2,Gj ha hb iA h3⟩
theorem vt {ents:List (List Int × Int)}{b r:Int}(hb:lV ents [b]=some b):∀{n:Nat}{x:Int},ml ents n x r->ml (nT ents [b] b) n x r
 |0,x,h=>by
  obtain⟨h1,rfl⟩:=h;refine⟨?_,rfl⟩;rw[iN];split
  ·rename_i e;simp at e;rw[e]
  ·exact h1
 |n+1,x,h=>by
  obtain⟨y,h1,h2,h3⟩:=h;refine⟨y,?_,h2,vt hb h3⟩;rw[iN,af]
  ·exact h1
  ·intro e;simp at e;subst e;rw[hb]at h1;exact h2 (XW.inj h1).symm
def KC (ids:List Int)(ents:List (List Int × Int))(F:Int->Int):Prop:=∀x∈ids,(∃n,ml ents n x (F x))/\F x∈ids/\lV ents [F x]=some (F x)
def gr (F:Int->Int)(l:Lnk):Int->Int:=fun x=>if F x=F l.b then F l.a else F x
def rP (s:List (List Int × Int) × (Int->Int))(l:Lnk):List (List Int × Int) × (Int->Int):=(nT s.1 [s.2 l.b] (s.2 l.a),gr s.2 l)
theorem P1 {ids:List Int}{ents:List (List Int × Int)}{F:Int->Int}{l:Lnk}(h:KC ids ents F)(ha:l.a∈ids)(hb:l.b∈ids):KC ids (nT ents [F l.b] (F l.a)) (gr F l):=by
 obtain⟨-,fa,ra⟩:=h l.a ha;obtain⟨-,fb,rb⟩:=h l.b hb;intro x hx;obtain⟨⟨n,hn⟩,fx,rx⟩:=h x hx;unfold gr;by_cases iA:F l.a=F l.b
 ·rw[iA];by_cases po:F x=F l.b
  ·rw[aj po,<-po];exact⟨⟨n,vt rx hn⟩,fx,by rw[iN,aj rfl]⟩
  ·rw[af po];exact⟨⟨n,vt rb hn⟩,fx,by rw[iN,af (by simpa using fun e=>po e.symm)];exact rx⟩
 ·by_cases po:F x=F l.b
  ·rw[aj po];rw[po]at hn;exact⟨⟨n+1,Gj ra rb iA hn⟩,fa,by rw[iN,af (by simpa using fun e=>iA e.symm)];exact ra⟩
  ·rw[af po];exact⟨⟨n,KB rb po hn⟩,fx,by rw[iN,af (by simpa using fun e=>po e.symm)];exact rx⟩
def ol (vs:List Vpc):List (List Int × Int):=vs.foldl (fun e v=>nT e [v.id] v.id) []
theorem mn {α β:Type}{f:β->α->β}{b:β}{l:List α}{k:Nat}{x:α}(h:l[k]? =some x):(l.take (k+1)).foldl f b=f ((l.take k).foldl f b) x:=by rw[ak h,Zm];rfl
theorem P2 (l:List Vpc)(e:List (List Int × Int))(x:Int):lV (l.foldl (fun e v=>nT e [v.id] v.id) e) [x]=if x∈l.map (·.id)then some x else lV e [x]:=by
 induction l generalizing e with
 |nil=>simp
 |cons v l ih=>
  rw[YO,ih,iN];by_cases h1:x∈l.map (·.id)
  ·rw[aj h1,aj (by simp only[Xm,X2];exact .inr h1)]
  ·rw[af h1];by_cases h2:v.id=x
   ·subst h2;simp
   ·rw[af (by simpa using h2),af];simp only[Xm,X2,not_or];exact⟨fun e=>h2 e.symm,h1⟩
theorem a1e (vs:List Vpc):KC (vs.map (·.id)) (ol vs) (fun x=>x):=fun x hx=>by
 have:=P2 vs [] x;rw[aj hx]at this;exact⟨⟨0,this,rfl⟩,hx,this⟩
def stN (n:Net):List (List Int × Int) × (Int->Int):=n.links.foldl rP (ol n.vpcs,fun x=>x)
theorem VF {n:Net}(hl:∀l∈n.links,l.a∈n.vpcs.map (·.id)/\l.b∈n.vpcs.map (·.id))(k:Nat):KC (n.vpcs.map (·.id)) ((n.links.take k).foldl rP (ol n.vpcs,fun x=>x)).1 ((n.links.take k).foldl rP (ol n.vpcs,fun x=>x)).2:=by
 induction k with
 |zero=>exact a1e n.vpcs
 |succ k ih=>
  by_cases hk:k < n.links.length
  ·have hx:=Xk hk;rw[mn hx];have:=hl _ (Ye hk);exact P1 ih this.1 this.2
  ·rw[XG aa]at ih ⊢;exact ih
def Ot (pid:Int)(m:List (List Int × Int))(l:Lse):List (List Int × Int):=if l.kind=1 then nT m [l.at_.at_,l.at_.len,pid] l.owner else m
def P3 (m:List (List Int × Int))(p:Pol):List (List Int × Int):=p.leases.foldl (Ot p.id) m
def xp (b:Bok):List (List Int × Int):=b.pools.foldl P3 []
theorem KD (b:Bok)(h1:b.pools.length<=1000000000)(h2:∀p∈b.pools,p.leases.length<=1000000000):
 MSpec prog 60 [.d (.agg (bq b))] [] (.mref 1) [.gone,.mp 3 true (xp b)]:=by
 replace h2:=Xj h2;refine mj func60 ntmps60 results60 ?_;refine ap ?_;refine bf ag am b.pools (fun _=>True) (fun k=>[(12,.d (.v (.int .i64 k))),(11,.d (.v (.int .i64 b.pools.length))),(10,.d (.sl 9 (b.pools.map an))),(3,.mref 1)])
  (fun k=>[.gone,.mp 3 true ((b.pools.take k).foldl P3 [])]) trivial ?_ ?_ ?_
 ·exact(aL 0 ah).trans wf
 ·intro k p hp hk _ C hC;have eo:(k:Int) < (b.pools.length:Int):=aa;have db:=wi k aa;have jC:=h2.out p (Xl hp);have hs:(b.pools.take (k+1)).foldl P3 []=p.leases.foldl (Ot p.id) ((b.pools.take k).foldl P3 []):=by rw[mn hp];rfl
  replace hs:=Xj hs;generalize (b.pools.take k).foldl P3 []=M at*;refine ap ?_;refine bf ag am p.leases (fun _=>True) (fun j=>[(19,.d (.v (.int .i64 j))),(18,.d (.v (.int .i64 p.leases.length))),(17,.d (.sl 5 (p.leases.map bt))),(5,.ptr 2 0),(12,.d (.v (.int .i64 k))),(11,.d (.v (.int .i64 b.pools.length))),(10,.d (.sl 9 (b.pools.map an))),(3,.mref 1)])
   (fun j=>[.gone,.mp 3 true ((p.leases.take j).foldl (Ot p.id) M),.box 83 ((an p).map .d)]) trivial wf ?_ ?_
  ·intro j l hl hj _ D hD;have lz:(j:Int) < (p.leases.length:Int):=aa;have nI:=wi j aa;have ht:(p.leases.take (j+1)).foldl (Ot p.id) M=if l.kind=1 then nT ((p.leases.take j).foldl (Ot p.id) M) [l.at_.at_,l.at_.len,p.id] l.owner else (p.leases.take j).foldl (Ot p.id) M:=by rw[mn hl];rfl
   generalize (p.leases.take j).foldl (Ot p.id) M=Mj at*;by_cases rn:l.kind=1
   ·rw[aj rn]at ht;have e1:(l.kind==1)=true:=by simpa using rn
    replace ht:=Xj ht;replace rn:=Xj rn;refine ap ?_;exact hD _ _ trivial (wf (hh:=by rw[ht.out];rfl))
   ·rw[af rn]at ht;have e1:(l.kind==1)=false:=by simpa using rn
    replace ht:=Xj ht;replace rn:=Xj rn;refine ap ?_;exact hD _ _ trivial (wf (hh:=by rw[ht.out];rfl))
  ·intro _ D;rw[Xq];refine ap ?_;exact hC _ _ trivial (wf (hh:=by rw[hs.out];rfl))
 ·intro _ C;rw[Xq];refine ap ?_;exact bn rfl rfl
def DR (E:List (List Int × Int))(id:Int)(r:Rng):Bool:=(lV E [r.at_.at_,r.at_.len,r.pool]).getD 0==id
def qh (vs:List Vpc):Nat:=(vs.map (·.ranges.length)).sum
def ip (vs:List Vpc)(o:Int):Bool:=vs.any (·.id==o)
def mo (E:List (List Int × Int))(vs:List Vpc):Bool:=vs.all fun v=>v.ranges.all (DR E v.id)
def mq (E:List (List Int × Int))(p:Int->Bool)(i:Nat):Bool:=match E[i]? with|some kv=>p kv.2|none=>false
theorem IT (E:List (List Int × Int))(p:Int->Bool):(X8 E.length).countP (mq E p)=E.countP fun kv=>p kv.2:=by
 induction E with
 |nil=>rfl
 |cons a l ih=>
  rw[Xx,List.range_succ_eq_map,List.countP_cons,List.countP_map,List.countP_cons];have:(mq (a::l) p∘Nat.succ)=mq l p:=by funext i;rfl
  rw[this,ih];rfl
theorem M3 {n:Nat}{seen:List Nat}(hn:seen.Nodup)(hl:∀i∈seen,i < n)(ha:∀i,i < n->i∈seen):seen.Perm (X8 n):=
 (List.perm_ext_iff_of_nodup hn List.nodup_range).2 fun i=>by
  rw[YS];exact⟨hl i,ha i⟩
theorem P4 {E:List (List Int × Int)}{p:Int->Bool}{seen:List Nat}(hn:seen.Nodup)(hl:∀i∈seen,i < E.length)(ha:∀i,i < E.length->i∈seen):seen.countP (mq E p)=E.countP fun kv=>p kv.2:=by
 rw[<-IT];exact List.Perm.countP_eq _ (M3 hn hl ha)
def Gk (n:Nat)(seen:List Nat):Nat:=((X8 n).filter fun i=>!seen.contains i).length
theorem KE {n i:Nat}{seen:List Nat}(hi:i < n)(hs:i∉seen):Gk n (seen++[i]) < Gk n seen:=by
 unfold Gk;have Az:((X8 n).filter fun j=>!(seen++[i]).contains j)=((X8 n).filter fun j=>!seen.contains j).filter (fun j=>!(j==i)):=by
  rw[Zt];refine J' fun j _=>?_;by_cases h:j=i
  ·subst h;simp
  ·by_cases h2:j∈seen<;>simp[h,h2]
 rw[Az];refine List.length_filter_lt_length_iff_exists.2 ⟨i,?_,by simp⟩;rw[ZB];exact⟨YS.2 hi,by simpa using hs⟩
theorem M4 {vs:List Vpc}{k:Nat}{v:Vpc}(h:vs[k]? =some v):qh (vs.take (k+1))=qh (vs.take k)+v.ranges.length:=by
 unfold qh;rw[ak h,Xo,List.sum_append];simp
theorem T0 {vs:List Vpc}{n:Nat}(h:∀v∈vs,v.ranges.length<=n):qh vs<=vs.length*n:=by
 induction vs with
 |nil=>simp[qh]
 |cons v vs ih=>
  have h1:=h v ah;have h2:=ih fun x hx=>h x (by simp[hx]);simp only[qh,Xm,List.sum_cons,Xx]at*;rw[ZC];omega
theorem T1 (m:List (List Int × Int))(k:List Int)(v:Int):(nT m k v).length<=m.length+1:=by
 induction m with
 |nil=>simp[nT]
 |cons a m ih=>
  unfold nT;split
  ·simp
  ·simp only[Xx];omega
theorem T2 (l:List Lse)(pid:Int):∀(m:List (List Int × Int)),(l.foldl (Ot pid) m).length<=m.length+l.length:=by
 induction l with
 |nil=>intro m;simp
 |cons a l ih=>
  intro m;rw[YO];have h1:=ih (Ot pid m a);have h2:(Ot pid m a).length<=m.length+1:=by
   unfold Ot;split
   ·exact T1 _ _ _
   ·omega
  simp only[Xx];omega
theorem T3 {b:Bok}{n:Nat}(h:∀p∈b.pools,p.leases.length<=n):(xp b).length<=b.pools.length*n:=by
 unfold xp;have key:∀(l:List Pol) (m:List (List Int × Int)),(∀p∈l,p.leases.length<=n)->(l.foldl P3 m).length<=m.length+l.length*n:=by
  intro l;induction l with
  |nil=>intro m _;simp
  |cons a l ih=>
   intro m hl;rw[YO];have h1:=ih (P3 m a) fun p hp=>hl p (by simp[hp]);have h2:=T2 a.leases a.id m;have h3:=hl a ah;simp only[Xx];rw[ZC];unfold P3 at*;omega
 have:=key b.pools [] h;simpa using this
theorem a2r (n:Net)(h1:n.vpcs.length<=1000000000)(h2:n.links.length<=1000000000)(hl:∀l∈n.links,l.a∈n.vpcs.map (·.id)/\l.b∈n.vpcs.map (·.id)):
 MSpec prog 217 [.d (.ept (cQ n))] [] (.mref 0) [.mp 1 false (stN n).1]:=by
 have hg:=Xj (VF hl);replace hl:=Xj hl;refine mj func217 ntmps217 results217 ?_;refine ap ?_<;>intros;refine bf ag am n.vpcs (fun _=>True) (fun k=>[(14,.d (.v (.int .i64 k))),(13,.d (.v (.int .i64 n.vpcs.length))),(12,.d (.sl 3 (n.vpcs.map ax))),(3,.mref 0),(0,.d (.ept (cQ n)))]) (fun k=>[.mp 1 false (ol (n.vpcs.take k))]) trivial (wf) ?_ ?_
 ·intro k v hv hk _ C hC;have eo:(k:Int) < (n.vpcs.length:Int):=aa;have db:=wi k aa;have hs:ol (n.vpcs.take (k+1))=nT (ol (n.vpcs.take k)) [v.id] v.id:=mn hv;replace hs:=Xj hs;refine ap ?_<;>intros;exact hC _ _ trivial (wf (hh:=(by rw[hs.out];rfl)))
 ·intro _ C;rw[Xq];refine ap ?_<;>intros;refine bf ag am n.links (fun _=>True) (fun k=>[(29,.d (.v (.int .i64 k))),(28,.d (.v (.int .i64 n.links.length))),(27,.d (.sl 2 (n.links.map cP))),(3,.mref 0)]) (fun k=>[.mp 1 false ((n.links.take k).foldl rP (ol n.vpcs,fun x=>x)).1]) trivial (wf) ?_ ?_
  ·intro k l li hk _ C hC;have eo:(k:Int) < (n.links.length:Int):=aa;have db:=wi k aa;have hs:((n.links.take (k+1)).foldl rP (ol n.vpcs,fun x=>x)).1=nT ((n.links.take k).foldl rP (ol n.vpcs,fun x=>x)).1 [((n.links.take k).foldl rP (ol n.vpcs,fun x=>x)).2 l.b] (((n.links.take k).foldl rP (ol n.vpcs,fun x=>x)).2 l.a):=by rw[mn li];rfl
   have hm:=hl.out l (Xl li);obtain⟨⟨na,ha⟩,-,-⟩:=hg.out k l.a hm.1;obtain⟨⟨nb,hb⟩,-,-⟩:=hg.out k l.b hm.2;generalize (n.links.take k).foldl rP (ol n.vpcs,fun x=>x)=S at*;have hma:=DQ S.1 na l.a (S.2 l.a) ha;have hmb:=DQ S.1 nb l.b (S.2 l.b) hb;clear ha hb hm;replace hs:=Xj hs;have z1z:=Ln.mk (ls:=[0]) (hmb);have z2z:=Lm.mk (Ln.mk (ls:=[0]) (hma));refine ft ?_ ?_ ?_ ?_ ?_ ?_ ?_ ?_<;>first|(with_reducible exact True.intro)|intros
   exact hC _ _ trivial (wf (hh:=(by rw[hs.out];rfl)))
  ·intro _ C;rw[Xq];refine ap ?_<;>intros;all_goals exact bn rfl rfl
def bg (n:Net):Int->Int:=(stN n).2
def kS (n:Net)(v w:Vpc):Bool:=(bg n v.id==bg n w.id)&&dR v w
def eT (n:Net):Bool:=(X8 n.vpcs.length).all fun k=>match n.vpcs[k]? with|some v=>(n.vpcs.take k).all fun w=>!kS n v w|none=>true
theorem vu {n:Net}{i j:Nat}{v w:Vpc}(hij:j < i)(hv:n.vpcs[i]? =some v)(hw:n.vpcs[j]? =some w)(h:kS n v w=true):eT n=false:=by
 unfold eT;rw[YW];refine⟨i,YS.2 (Xn.1 hv).1,?_⟩;rw[hv];simp only[Bool.not_eq_true,YW];exact⟨w,Xl (i:=j) (by rw[XP hij];exact hw),by rw[h];simp⟩
theorem sx {n:Net}(h:∀(i:Nat) (v w:Vpc),n.vpcs[i]? =some v->w∈n.vpcs.take i->kS n v w=false):eT n=true:=by
 unfold eT;rw[XA];intro i hi;have hl:=YS.1 hi;rw[Xk hl];simp only[XA];intro w hw;rw[h i _ w (Xk hl) hw];rfl
theorem DS (n:Net)(h1:n.vpcs.length<=1000000000)(h2:n.links.length<=1000000000)(hr:∀v∈n.vpcs,v.ranges.length<=1000000000)(hl:∀l∈n.links,l.a∈n.vpcs.map (·.id)/\l.b∈n.vpcs.map (·.id)):
 ai prog 128 [.ept (cQ n)] (.v (.bool (eT n))):=by
 have hof:=a2r n h1 h2 hl;have hg:∀x∈n.vpcs.map (·.id),∃k,ml (stN n).1 k x (bg n x):=fun x hx=>by
  have:=(VF hl n.links.length x (by exact hx)).1;rwa [Xq]at this
 replace hg:=Xj hg;replace hr:=Xj hr;clear hl;obtain⟨R,hR⟩:∃R,R=eT n:=⟨_,rfl⟩;rw[<-hR];replace hR:=Xj hR;generalize (stN n).1=E at*;refine pj func128 ntmps128 results128 ?_;have z1z:=Ln.mk (ls:=[]) (hof);refine ap ?_<;>intros;clear hof;refine bf ag am n.vpcs (fun k=>∀(i:Nat) (v w:Vpc),i < k->n.vpcs[i]? =some v->w∈n.vpcs.take i->kS n v w=false) (fun k=>[(15,.d (.v (.int .i64 k))),(14,.d (.v (.int .i64 n.vpcs.length))),(13,.d (.sl 3 (n.vpcs.map ax))),(3,.mref 0),(2,.d (.v (.bool false))),(0,.d (.ept (cQ n)))]) (fun _=>[.mp 1 false E]) (fun i v w h=>absurd h (YH _)) (wf) ?_ ?_
 ·intro k v hv hk hI C hC;have eo:(k:Int) < (n.vpcs.length:Int):=aa;have db:=wi k aa;have xT:k<=n.vpcs.length:=aa;have uy:=Xl hv;have C8:=hr.out v uy;obtain⟨nv,hhv⟩:=hg.out v.id (XN.2 ⟨v,uy,rfl⟩);have hmv:=DQ E nv v.id (bg n v.id) hhv;have hlt:(n.vpcs.take k).length=k:=by rw[Xp];omega
  have qF:((n.vpcs.map ax).take k).length=k:=by rw[<-ZI,XB];exact hlt
  clear hhv;replace hI:=Xj hI;refine ap ?_<;>intros;refine bf ag am (n.vpcs.take k) (fun j=>∀w∈(n.vpcs.take k).take j,kS n v w=false) (fun j=>[(27,.d (.v (.int .i64 j))),(26,.d (.v (.int .i64 k))),(25,.d (.sl 3 ((n.vpcs.map ax).take k))),(5,.ptr 1 0),(15,.d (.v (.int .i64 k))),(14,.d (.v (.int .i64 n.vpcs.length))),(13,.d (.sl 3 (n.vpcs.map ax))),(3,.mref 0),(2,.d (.v (.bool false))),(0,.d (.ept (cQ n)))]) (fun _=>[.mp 1 false E,.box 88 ((ax v).map .d)]) (fun w hw=>by simp at hw) (wf) ?_ ?_
  ·intro j w hw hj hJ C2 j6;have lz:(j:Int) < (k:Int):=aa;have rl:((n.vpcs.map ax).take k)[j]? =some (ax w):=by rw[<-ZI,Xy,hw];rfl
   have nI:=wi j aa;have Ez:j < k:=aa;have cj:n.vpcs[j]? =some w:=by rw[XP Ez]at hw;exact hw
   have C9:=Xl cj;have hrw:=hr.out w C9;obtain⟨nw,hhw⟩:=hg.out w.id (XN.2 ⟨w,C9,rfl⟩);have hmw:=DQ E nw w.id (bg n w.id) hhw;have gU:=TX v w C8 hrw;have bL:kS n v w=true->R=false:=fun h=>by rw[hR.out];exact vu Ez hv cj h
   have uz:kS n v w=false->∀u∈(n.vpcs.take k).take (j+1),kS n v u=false:=fun h u hu=>by
    rw[ak hw]at hu;rcases X0.1 hu with hu|hu
    ·exact hJ u hu
    ·rw[X7.1 hu];exact h
   have iK:kS n v w=((bg n v.id==bg n w.id)&&dR v w):=rfl;clear hhw hlt qF;replace bL:=Xj bL;replace uz:=Xj uz;replace iK:=Xj iK;replace hJ:=Xj hJ;replace hw:=Xj hw;generalize (n.vpcs.map ax).take k=L at*;cases e1:(bg n v.id==bg n w.id)with
   |false=>
    have hf:=Xj (uz.out (by rw[iK.out,e1];rfl));have z1z:=Ln.mk (ls:=[0]) (hmv);have z2z:=Lm.mk (Ln.mk (ls:=[0]) (hmw));refine ft ?_ ?_ ?_ ?_ ?_ ?_ ?_ ?_<;>first|(with_reducible exact True.intro)|intros
    exact j6 _ _ hf.out (wf)
   |true=>
    cases e2:dR v w with
    |true=>
     have hb:R=false:=bL.out (by rw[iK.out,e1,e2];rfl);rw[hb];replace hb:=Xj hb;rw[e2]at gU;have z1z:=Ln.mk (ls:=[0]) (hmv);have z2z:=Lm.mk (Ln.mk (ls:=[0]) (hmw));refine ft ?_ ?_ ?_ ?_ ?_ ?_ ?_ ?_<;>first|(with_reducible exact True.intro)|intros
     all_goals exact aP.refl _
    |false=>
     have hf:=Xj (uz.out (by rw[iK.out,e1,e2];rfl));rw[e2]at gU;have z1z:=Ln.mk (ls:=[0]) (hmv);have z2z:=Lm.mk (Ln.mk (ls:=[0]) (hmw));refine ft ?_ ?_ ?_ ?_ ?_ ?_ ?_ ?_<;>first|(with_reducible exact True.intro)|intros
     exact j6 _ _ hf.out (wf)
  ·intro hJ C2;rw[Xq]at hJ;have nL:∀(i:Nat) (u w:Vpc),i < k+1->n.vpcs[i]? =some u->w∈n.vpcs.take i->kS n u w=false:=fun i u w hi hu hw=>by
    rcases XM i k with h|h
    ·exact hI.out i u w h hu hw
    ·obtain rfl:i=k:=aa;rw[hv]at hu;rw[<-XW.inj hu];exact hJ w hw
   replace nL:=Xj nL;replace hJ:=Xj hJ;rw[hlt];refine ap ?_<;>intros;exact hC _ _ nL.out (wf)
 ·intro hI C;have hb:R=true:=by
   rw[hR.out];exact sx fun i v w hv hw=>hI i v w (Xn.1 hv).1 hv hw
  rw[hb];replace hb:=Xj hb;replace hI:=Xj hI;exact bc;all_goals exact aP.refl _
def lM (n:Net)(l:Lnk):Bool:=(fV n l.a).isSome&&((fV n l.b).isSome&&decide (l.a < l.b))
def j4:List Lnk->Bool
 |l::m::ls=>decide (tX l m < 0)&&j4 (m::ls)
 |_=>true
theorem DT:∀(l:List Lnk),j4 l=true↔∀j (h:j+1 < l.length),tX l[j] l[j+1] < 0
 |[]=>by simp[j4]
 |[a]=>by simp[j4]
 |a::b::l=>by
  have ih:=DT (b::l);simp only[j4,Xt,decide_eq_true_eq,ih];constructor
  ·exact a4i
  ·exact a4O
def qi (n:Net):Bool:=n.vpcs.all (fun v=>bT v==0)&&fK (·.id) n.vpcs
def cN (n:Net):Int:=if n.vpcs.length>6\/n.links.length>12 then 2 else if qi n&&(n.links.all (lM n)&&(j4 n.links&&eT n))then 0 else 1
theorem fM {n:Net}{x:Int}(h:(fV n x).isSome=true):x∈n.vpcs.map (·.id):=by
 obtain⟨v,hv⟩:=Zo.1 h;unfold fV at hv;have h1:=YE hv;have h2:=Zs hv;exact XN.2 ⟨v,h1,by simpa using h2⟩
theorem iV {n:Net}(h0:¬(n.vpcs.length>6\/n.links.length>12))(h:qi n=false\/n.links.all (lM n)=false\/j4 n.links=false\/eT n=false):cN n=1:=by
 unfold cN;rw[af h0];rcases h with h|h|h|h<;>simp[h]
theorem vv {n:Net}(h0:¬(n.vpcs.length>6\/n.links.length>12))(h1:qi n=true)(h2:n.links.all (lM n)=true)(h3:j4 n.links=true)(h4:eT n=true):cN n=0:=by
 unfold cN;rw[af h0,h1,h2,h3,h4];rfl
theorem a3Z {p:Prop}(h:p:=by
 rw[eb]at lw;replace eb:=Xj eb;have z1z:=Ln.mk (ls:=[0]) (lA);have z2z:=Lm.mk (Ln.mk (ls:=[0]) (lw));refine ft ?_ ?_ ?_ ?_ ?_ ?_ ?_ ?_<;>first|(with_reducible exact True.intro)|intros
 all_goals exact aP.refl _):p:=h
theorem a4Q {p:Prop}(h:p:=by
 rw[hR.out];refine iV cg (.inr (.inr (.inl ?_)));cases hb:j4 n.links with
 |false=>rfl
 |true=>rw[Cp hb]at h;cases h):p:=h
theorem a4Z {p:Prop}(h:p:=by
 refine⟨?_,g⟩;rw[jd];intro u hu;rcases X0.1 hu with hu|hu
 ·exact hJ.1 u hu
 ·rw[X7.1 hu];exact h):p:=h
theorem a5T {p:Prop}(h:p:=by
 rw[hp]at LD;replace hp:=Xj hp;exact bc;all_goals exact aP.refl _):p:=h
theorem a6q {p:Prop}(h:p:=by
 exact absurd ((mr hb (k+1)).1 v (by rw[jd];simp)) hc):p:=h
def nf (l:List Vpc):Int:=(l.getLast?.map (·.id)).getD 0
theorem sy (l:List Vpc)(v:Vpc):nf (l++[v])=v.id:=by simp[nf]
theorem zb {l:List Vpc}(hs:l.Pairwise fun a b=>a.id < b.id){v:Vpc}(h:nf l < v.id):(l++[v]).Pairwise fun a b=>a.id < b.id:=by
 rw[YV];refine⟨hs,by simp,fun a ha b hb=>?_⟩;rw[X7.1 hb];rcases List.eq_nil_or_concat l with rfl|⟨l',x,rfl⟩
 ·cases ha
 ·rw[List.concat_eq_append]at*;rw[sy]at h;rw[YV]at hs;rcases X0.1 ha with ha|ha
  ·have:=hs.2.2 a ha x ah;omega
  ·rw[X7.1 ha];exact h
theorem Co {l:List Vpc}{v:Vpc}(hv:1<=v.id)(h:v.id<=nf l):¬(l++[v]).Pairwise fun a b=>a.id < b.id:=by
 intro hp;rw[YV]at hp;rcases List.eq_nil_or_concat l with rfl|⟨l',x,rfl⟩
 ·simp[nf]at h;omega
 ·rw[List.concat_eq_append]at*;rw[sy]at h;have:=hp.2.2 x ah v ah;omega
theorem mr {n:Net}(h:qi n=true)(k:Nat):(∀v∈n.vpcs.take k,bT v=0)/\(n.vpcs.take k).Pairwise fun a b=>a.id < b.id:=by
 unfold qi at h;simp only[Xt,XA,gE,beq_iff_eq]at h;exact⟨fun v hv=>h.1 v (Yd hv),h.2.sublist (_m _ _)⟩
theorem zc {n:Net}(h1:∀v∈n.vpcs,bT v=0)(h2:n.vpcs.Pairwise fun a b=>a.id < b.id):qi n=true:=by
 unfold qi;simp only[Xt,XA,gE,beq_iff_eq];exact⟨h1,h2⟩
theorem vx:∀(l:List Lnk) (x:Lnk),j4 (l++[x])=(j4 l&&(match l.getLast? with|some y=>decide (tX y x < 0)|none=>true))
 |[],x=>rfl
 |[a],x=>by simp[j4]
 |a::b::l,x=>by
  have ih:=vx (b::l) x;have e:(a::b::l).getLast? =(b::l).getLast? :=by simp[List.getLast?_cons_cons]
  rw[X9,X9,j4,<-X9,ih,e,j4,_n]
theorem Cp {l:List Lnk}(h:j4 l=true)(k:Nat):j4 (l.take k)=true:=by
 rw[DT]at h ⊢;intro j hj;rw[ZP,ZP];exact h j (by rw[Xp]at hj;omega)
theorem vz {α:Type}{l:List α}{j:Nat}{y:α}(h:l[j]? =some y):(l.take (j+1)).getLast? =some y:=by rw[ak h];simp
theorem zd (n:Net):ai prog 59 [.agg (cQ n)] (.v (.int .i64 (cN n))):=by
 obtain⟨R,hR⟩:∃R,R=cN n:=⟨_,rfl⟩;rw[<-hR];replace hR:=Xj hR;by_cases h6:n.vpcs.length>6
 ·have h6I:decide ((n.vpcs.length:Int)>6)=true:=aK;have hr:R=2:=by rw[hR.out,cN,aj (.inl h6)]
  rw[hr];replace hr:=Xj hr;refine pj func59 ntmps59 results59 ?_;exact bc;all_goals exact aP.refl _
 by_cases Si:n.links.length>12
 ·have h6I:decide ((n.vpcs.length:Int)>6)=false:=aK;have a0q:decide ((n.links.length:Int)>12)=true:=aK;have hr:R=2:=by rw[hR.out,cN,aj (.inr Si)]
  rw[hr];replace hr:=Xj hr;refine pj func59 ntmps59 results59 ?_;exact bc;all_goals exact aP.refl _
 have h6I:decide ((n.vpcs.length:Int)>6)=false:=aK;have a0q:decide ((n.links.length:Int)>12)=false:=aK;have cg:¬(n.vpcs.length>6\/n.links.length>12):=aa;refine pj func59 ntmps59 results59 ?_;refine ap ?_<;>intros;refine bf ag am n.vpcs (fun k=>(∀v∈n.vpcs.take k,bT v=0)/\(n.vpcs.take k).Pairwise fun a b=>a.id < b.id) (fun k=>[(25,.d (.v (.int .i64 k))),(24,.d (.v (.int .i64 n.vpcs.length))),(23,.d (.sl 3 (n.vpcs.map ax))),(3,.d (.v (.int .i64 (nf (n.vpcs.take k))))),(2,.d (.v (.int .i64 0))),(1,.ptr 0 0)]) (fun _=>[.box 34 ((cQ n).map .d)]) ah (wf) ?_ ?_
 ·intro k v hv hk hI C hC;have eo:(k:Int) < (n.vpcs.length:Int):=aa;have db:=wi k aa;have jd:=ak hv;have xB:nf (n.vpcs.take (k+1))=v.id:=by rw[jd,sy]
  have hcv:=qf v;obtain⟨LA,hLA⟩:∃x,x=nf (n.vpcs.take k):=⟨_,rfl⟩;rw[<-hLA];by_cases hc:bT v=0
  ·have hid:1<=v.id:=by have:=(aY hc).id;simp[cB]at this;exact this.1
   rw[hc]at hcv;by_cases hle:v.id<=LA
   ·have hr:R=1:=by
     rw[hR.out];refine iV cg (.inl ?_);cases hb:qi n with
     |false=>rfl
     |true=>
      have:=(mr hb (k+1)).2;rw[jd]at this;exact absurd this (Co hid (by rw[<-hLA];exact hle))
    rw[hr];clear hr hI hid hC hLA xB jd;replace hc:=Xj hc;exact bc;all_goals exact aP.refl _
   ·have nL:(∀v∈n.vpcs.take (k+1),bT v=0)/\(n.vpcs.take (k+1)).Pairwise fun a b=>a.id < b.id:=by
     rw[jd];exact⟨fun u hu=>by
      rcases X0.1 hu with hu|hu
      ·exact hI.1 u hu
      ·rw[X7.1 hu];exact hc,zb hI.2 (by rw[<-hLA];omega)⟩
    have kh:decide (v.id<=LA)=false:=by simpa using hle
    clear hI hid jd;replace hc:=Xj hc;replace hle:=Xj hle;replace nL:=Xj nL;replace xB:=Xj xB;replace hLA:=Xj hLA;refine ap ?_<;>intros;refine hC _ _ nL.out ?_;simp only[xB.out];exact wf
  ·have hr:R=1:=by
    rw[hR.out];refine iV cg (.inl ?_);cases hb:qi n with
    |false=>rfl
    |true=>exact a6q
   have hcb:(bT v !=0)=true:=by simpa using hc
   rw[hr];clear hr hI hC hLA xB jd;replace hc:=Xj hc;exact bc;all_goals exact aP.refl _
 ·intro hI C;rw[Xq]at hI ⊢;have Sj:=zc hI.1 hI.2;have pF:=hI.2;generalize nf n.vpcs=LA;replace hI:=Xj hI;replace pF:=Xj pF;replace Sj:=Xj Sj;refine ap ?_<;>intros;refine bf ag am n.links (fun k=>(∀l∈n.links.take k,lM n l=true)/\j4 (n.links.take k)=true) (fun k=>[(44,.d (.v (.int .i64 k))),(43,.d (.v (.int .i64 n.links.length))),(42,.d (.sl 2 (n.links.map cP))),(2,.d (.v (.int .i64 0))),(1,.ptr 0 0)]) (fun _=>[.box 34 ((cQ n).map .d)]) (by simp[j4]) (wf) ?_ ?_
  ·intro k l hl hk hJ C hC;have eo:(k:Int) < (n.links.length:Int):=aa;have db:=wi k aa;have jd:=ak hl;have lA:=Gi n l.a aa pF.out;have lw:=Gi n l.b aa pF.out;have bL:lM n l=false->R=1:=fun h=>by
    rw[hR.out];refine iV cg (.inr (.inl ?_));rw[YW];exact⟨l,Xl hl,by simp[h]⟩
   have kh:lM n l=((fV n l.a).isSome&&((fV n l.b).isSome&&decide (l.a < l.b))):=rfl;have iL:lM n l=true->j4 (n.links.take (k+1))=true->(∀l∈n.links.take (k+1),lM n l=true)/\j4 (n.links.take (k+1))=true:=fun h g=>a4Z
   have AI:j4 (n.links.take (k+1))=false->R=1:=fun h=>a4Q
   have wa:=vx (n.links.take k) l;rw[<-jd,hJ.2,Ys]at wa;clear jd;replace hJ:=Xj hJ;replace bL:=Xj bL;replace AI:=Xj AI;replace iL:=Xj iL;cases ea:fV n l.a with
   |none=>
    rw[ea]at lA kh;have hr:R=1:=bL.out (by rw[kh];rfl);rw[hr];clear hr kh wa;replace ea:=Xj ea;cases eb:fV n l.b with
    |none=>exact a3Z
    |some w=>exact a3Z
   |some v=>
    rw[ea]at lA kh;replace ea:=Xj ea;cases eb:fV n l.b with
    |none=>
     rw[eb]at lw kh;have hr:R=1:=bL.out (by rw[kh];rfl);rw[hr];clear hr kh wa;replace eb:=Xj eb;have z1z:=Ln.mk (ls:=[0]) (lA);have z2z:=Lm.mk (Ln.mk (ls:=[0]) (lw));refine ft ?_ ?_ ?_ ?_ ?_ ?_ ?_ ?_<;>first|(with_reducible exact True.intro)|intros
     all_goals exact aP.refl _
    |some w=>
     rw[eb]at lw kh;replace eb:=Xj eb;by_cases iA:l.a < l.b
     ·have hge:decide (l.a>=l.b)=false:=aK;have hlt:lM n l=true:=by rw[kh];simp[iA]
      clear kh;replace hlt:=Xj hlt;by_cases hk0:k=0
      ·have hkz:decide ((k:Int)>0)=false:=aK;have hg:=iL.out hlt.out (by rw[wa,hk0];rfl);clear wa;replace hg:=Xj hg;replace hk0:=Xj hk0;replace iA:=Xj iA;have z1z:=Ln.mk (ls:=[0]) (lA);have z2z:=Lm.mk (Ln.mk (ls:=[0]) (lw));refine ft ?_ ?_ ?_ ?_ ?_ ?_ ?_ ?_<;>first|(with_reducible exact True.intro)|intros
       exact hC _ _ hg.out (wf)
      ·obtain⟨j,hj⟩:∃j,k=j+1:=⟨k - 1,by omega⟩;obtain⟨y,hy⟩:∃y,n.links[j]? =some y:=⟨_,Xk aa⟩;have hkz:decide ((k:Int)>0)=true:=aK;have ci:IntKind.i64.wrap ((k:Int) - 1)=(j:Int):=by rw[IntKind.wrap_i64];omega
       have lz:(j:Int) < (n.links.length:Int):=aa;have hor:=TY y l;rw[hj,vz hy]at wa;simp only at wa;rw[<-hj]at wa;replace hj:=Xj hj;replace hk0:=Xj hk0;replace iA:=Xj iA;by_cases ho:tX y l < 0
       ·have hg:=iL.out hlt.out (by rw[wa];simpa using ho);have iM:decide (tX y l>=0)=false:=by simpa using ho
        clear wa;replace hg:=Xj hg;replace ho:=Xj ho;generalize tX y l=O at*;have z1z:=Ln.mk (ls:=[0]) (lA);have z2z:=Lm.mk (Ln.mk (ls:=[0]) (lw));refine ft ?_ ?_ ?_ ?_ ?_ ?_ ?_ ?_<;>first|(with_reducible exact True.intro)|intros
        exact hC _ _ hg.out (wf)
       ·have hr:R=1:=AI.out (by rw[wa];simpa using ho);have iM:decide (tX y l>=0)=true:=by simpa using ho
        rw[hr];clear wa hr;replace ho:=Xj ho;generalize tX y l=O at*;have z1z:=Ln.mk (ls:=[0]) (lA);have z2z:=Lm.mk (Ln.mk (ls:=[0]) (lw));refine ft ?_ ?_ ?_ ?_ ?_ ?_ ?_ ?_<;>first|(with_reducible exact True.intro)|intros
        all_goals exact aP.refl _
     ·have hge:decide (l.a>=l.b)=true:=aK;have hr:R=1:=bL.out (by rw[kh];simp;omega);rw[hr];clear hr kh wa;replace iA:=Xj iA;have z1z:=Ln.mk (ls:=[0]) (lA);have z2z:=Lm.mk (Ln.mk (ls:=[0]) (lw));refine ft ?_ ?_ ?_ ?_ ?_ ?_ ?_ ?_<;>first|(with_reducible exact True.intro)|intros
      all_goals exact aP.refl _
  ·intro hJ C;rw[Xq]at hJ;have LD:=DS n aa aa (fun v hv=>by have:=(aY (hI.out.1 v hv)).n4;omega) (fun l hl=>by
    have:=hJ.1 l hl;unfold lM at this;simp only[Xt]at this;exact⟨fM this.1,fM this.2.1⟩)
   have hr:R=if eT n=true then 0 else 1:=by
    rw[hR.out];split
    ·rename_i hp;exact vv cg Sj.out (by rw[XA];exact hJ.1) hJ.2 hp
    ·rename_i hp;exact iV cg (.inr (.inr (.inr (by simpa using hp))))
   rw[hr];clear hr;replace hJ:=Xj hJ;cases hp:eT n with
   |true=>exact a5T
   |false=>exact a5T
structure NetOK (n:Net):Prop where
 n6:n.vpcs.length<=6
 n12:n.links.length<=12
 vp:∀v∈n.vpcs,bT v=0
 rise:n.vpcs.Pairwise fun a b=>a.id < b.id
 lk:∀l∈n.links,lM n l=true
 rk:j4 n.links=true
 pe:eT n=true
theorem iq {n:Net}:cN n=0↔NetOK n:=by
 constructor
 ·intro h;unfold cN at h;split at h
  ·cases h
  ·rename_i h0;split at h
   ·rename_i h1;simp only[Xt]at h1;have:=mr h1.1 n.vpcs.length;rw[Xq]at this;exact⟨by omega,by omega,this.1,this.2,by simpa using h1.2.1,h1.2.2.1,h1.2.2.2⟩
   ·cases h
 ·rintro⟨a,b,c,d,e,f,g⟩;exact vv aa (zc c d) (by simpa using e) f g
theorem NetOK.ids {n:Net}(h:NetOK n):∀l∈n.links,l.a∈n.vpcs.map (·.id)/\l.b∈n.vpcs.map (·.id):=fun l hl=>by
 have:=h.lk l hl;unfold lM at this;simp only[Xt]at this;exact⟨fM this.1,fM this.2.1⟩
theorem Cq {α:Type}{enc:α->List D}(cU:∀x,(enc x).length=9)(p:α->Bool)(l:List α)(g:Nat)(caps:List D)(hl:l.length<=1000000000)(hc:∀x∈l,ai prog g (.agg (enc x)::caps) (.v (.bool (p x)))):
 ai prog 236 [.sl 9 (l.map enc),.clo g caps] (.v (.int .i64 (cv p l))):=by
 refine pj func236 ntmps236 results236 ?_;refine ap ?_<;>intros;refine bQ ag am (fun m e h=>∃k:Nat,k<=l.length/\(∀x∈l.take k,p x=false)/\m=l.length - k/\e=[(8,.d (.v (.int .i64 k))),(7,.d (.v (.int .i64 l.length))),(4,.d (.v (.int .i64 0))),(1,.d (.clo g caps)),(0,.d (.sl 9 (l.map enc)))]/\h=[]) _ _ _ ⟨0,XD _,by simp,rfl,rfl,rfl⟩ ?_ ?_
 ·exact a3J
 ·exact gt
theorem M5 {α:Type}{enc:α->List D}(cU:∀x,(enc x).length=9)(p:α->Bool)(l:List α)(g:Nat)(caps:List D)(hl:l.length<=1000000000)(hc:∀x∈l,ai prog g (.agg (enc x)::caps) (.v (.bool (p x)))):
 ai prog 158 [.sl 9 (l.map enc),.clo g caps] (.v (.bool (l.any p))):=by
 have hi:=Cq cU p l g caps hl hc;have jY:=gq p l;refine pj func158 ntmps158 results158 ?_;exact bc;all_goals exact aP.refl _
theorem oW {α:Type}{enc:α->List D}(cU:∀x,(enc x).length=5)(p:α->Bool)(l:List α)(g:Nat)(caps:List D)(hl:l.length<=1000000000)(hc:∀x∈l,ai prog g (.agg (enc x)::caps) (.v (.bool (p x)))):
 ai prog 165 [.sl 5 (l.map enc),.clo g caps] (.v (.int .i64 (cv p l))):=by
 refine pj func165 ntmps165 results165 ?_;refine ap ?_<;>intros;refine bQ ag am (fun m e h=>∃k:Nat,k<=l.length/\(∀x∈l.take k,p x=false)/\m=l.length - k/\e=[(8,.d (.v (.int .i64 k))),(7,.d (.v (.int .i64 l.length))),(4,.d (.v (.int .i64 0))),(1,.d (.clo g caps)),(0,.d (.sl 5 (l.map enc)))]/\h=[]) _ _ _ ⟨0,XD _,by simp,rfl,rfl,rfl⟩ ?_ ?_
 ·exact a3J
 ·exact gt
theorem sD {α:Type}{enc:α->List D}(cU:∀x,(enc x).length=5)(p:α->Bool)(l:List α)(g:Nat)(caps:List D)(hl:l.length<=1000000000)(hc:∀x∈l,ai prog g (.agg (enc x)::caps) (.v (.bool (p x)))):
 ai prog 119 [.sl 5 (l.map enc),.clo g caps] (.v (.bool (l.any p))):=by
 have hi:=oW cU p l g caps hl hc;have jY:=gq p l;refine pj func119 ntmps119 results119 ?_;exact bc;all_goals exact aP.refl _
theorem a4Y {p:Prop}(h:p:=by
 refine pj func261 ntmps261 results261 ?_;have z1z:=lL a;have z2z:=lL b;exact bc;all_goals exact aP.refl _):p:=h
theorem P5 (a b:Int):ai prog 261 [.v (.int .i64 a),.v (.int .i64 b)] (.v (.bool (decide (a < b)))):=by
 cases h:decide (a < b)with
 |true=>exact a4Y
 |false=>exact a4Y
theorem vA {α:Type}{enc:α->List D}(cU:∀x,(enc x).length=9)(key:α->Int)(l:List α)(t:Int)(g:Nat)(caps:List D)(hl:l.length<=1000000000)(hs:l.Pairwise fun a b=>key a < key b)(hc:∀x∈l,ai prog g (.agg (enc x):: .v (.int .i64 t)::caps) (.v (.int .i64 (eQ (key x) t)))):
 ai prog 233 [.sl 9 (l.map enc),.v (.int .i64 t),.clo g caps] (.tup [.v (.int .i64 (j8 key t l)),.v (.bool (tM key t l))]):=by
 refine pj func233 ntmps233 results233 ?_;refine ap ?_<;>intros;refine bQ ag am (fun m e h=>∃i j:Nat,i<=j/\j<=l.length/\(∀q (hq:q < l.length),q < i->key l[q] < t)/\(∀q (hq:q < l.length),j<=q->t<=key l[q])/\m=j - i/\
  e=[(10,.d (.v (.int .i64 j))),(9,.d (.v (.int .i64 i))),(8,.d (.v (.int .i64 l.length))),(7,.d (.v (.bool false))),(6,.d (.v (.int .i64 0))),(2,.d (.clo g caps)),(1,.d (.v (.int .i64 t))),(0,.d (.sl 9 (l.map enc)))]/\h=[]) _ _ _ ⟨0,l.length,XD _,Xz _,fun q hq h=>absurd h (YH _),fun q hq h=>by omega,rfl,rfl,rfl⟩ ?_ ?_
 ·exact a4x
 ·exact mt
theorem IU {α:Type}{enc:α->List D}(cU:∀x,(enc x).length=5)(key:α->Int)(l:List α)(t:Int)(g:Nat)(caps:List D)(hl:l.length<=1000000000)(hs:l.Pairwise fun a b=>key a < key b)(hc:∀x∈l,ai prog g (.agg (enc x):: .v (.int .i64 t)::caps) (.v (.int .i64 (eQ (key x) t)))):
 ai prog 239 [.sl 5 (l.map enc),.v (.int .i64 t),.clo g caps] (.tup [.v (.int .i64 (j8 key t l)),.v (.bool (tM key t l))]):=by
 refine pj func239 ntmps239 results239 ?_;refine ap ?_<;>intros;refine bQ ag am (fun m e h=>∃i j:Nat,i<=j/\j<=l.length/\(∀q (hq:q < l.length),q < i->key l[q] < t)/\(∀q (hq:q < l.length),j<=q->t<=key l[q])/\m=j - i/\
  e=[(10,.d (.v (.int .i64 j))),(9,.d (.v (.int .i64 i))),(8,.d (.v (.int .i64 l.length))),(7,.d (.v (.bool false))),(6,.d (.v (.int .i64 0))),(2,.d (.clo g caps)),(1,.d (.v (.int .i64 t))),(0,.d (.sl 5 (l.map enc)))]/\h=[]) _ _ _ ⟨0,l.length,XD _,Xz _,fun q hq h=>absurd h (YH _),fun q hq h=>by omega,rfl,rfl,rfl⟩ ?_ ?_
 ·exact a4x
 ·exact mt
section
open Go.Proofs
section
variable {w:World}{b o:Nat}{c0 c1 c2 c3 c4 c5 c6 c7 c8:Value}
theorem ko (h:oI w b o [c0,c1]):w.cell? ⟨b,o,none⟩=some c0/\w.cell? ⟨b,o+1,none⟩=some c1:=⟨h 0 ah,h 1 ah⟩
end
theorem fh {w w':World}{b o:Nat}{cs:List Value}(hx:cM w w')(h:oI w b o cs):oI w' b o cs:=fun j hj=>aU hx (h j hj)
theorem Sl.ext {α:Type}{A:nC}{w w':World}{k:Nat}{R:List Value->α->Prop}{ao:Option Addr}{cap:Nat}{l:List α}(h:Sl A w k R ao cap l)(hx:cM w w'):Sl A w' k R ao cap l:=by
 refine⟨h.cap_le,h.cap_max,fun i hi=>?_⟩;obtain⟨b,off,cs,h1,h2,h3,h4,h5⟩:=h.elem i hi;exact⟨b,off,cs,h1,h2,h3,h4,fh hx h5⟩
theorem Sl.nil {α:Type}{A:nC}{w:World}{k:Nat}{R:List Value->α->Prop}{ao:Option Addr}{cap:Nat}(h:cap<=9223372036854775807):Sl A w k R ao cap ([]:List α):=
 ⟨XD _,h,fun i hi=>by simp at hi⟩
theorem Sl.take {α:Type}{A:nC}{w:World}{k:Nat}{R:List Value->α->Prop}{ao:Option Addr}{cap:Nat}{l:List α}(h:Sl A w k R ao cap l)(n:Nat):Sl A w k R ao cap (l.take n):=by
 refine⟨Yy (List.length_take_le' n l) h.cap_le,h.cap_max,fun i hi=>?_⟩;have hi':i < l.length:=by rw[Xp]at hi;omega
 obtain⟨b,off,cs,h1,h2,h3,h4,h5⟩:=h.elem i hi';exact⟨b,off,cs,h1,h2,h3,by rw[ZP];exact h4,h5⟩
theorem Sl.mono {α:Type}{A:nC}{w:World}{k:Nat}{R R':List Value->α->Prop}{ao:Option Addr}{cap:Nat}{l:List α}(h:Sl A w k R ao cap l)(hR:∀cs x,x∈l->R cs x->R' cs x):Sl A w k R' ao cap l:=by
 refine⟨h.cap_le,h.cap_max,fun i hi=>?_⟩;obtain⟨b,off,cs,h1,h2,h3,h4,h5⟩:=h.elem i hi;exact⟨b,off,cs,h1,h2,h3,hR _ _ (Ye hi) h4,h5⟩
def pt {α:Type}(p:α->Bool)(l:List α):Int:=match l.findIdx? p with|some i=>(i:Int)|none=> -1
theorem KF {α:Type}{p:α->Bool}{l:List α}{k:Nat}(hk:k < l.length)(hp:p l[k]=true)(hn:∀j (h:j < k),p (l[j]'(by omega))=false):pt p l=k:=by
 have:l.findIdx? p=some k:=by
  rw[XI];exact⟨hk,hp,fun j hj=>by simp[hn j hj]⟩
 unfold pt;rw[this]
theorem Gl {α:Type}{p:α->Bool}{l:List α}(hn:∀j (h:j < l.length),p l[j]=false):pt p l= -1:=by
 have:l.findIdx? p=none:=by
  rw[Yn];intro x hx;obtain⟨j,hj,rfl⟩:=X3.1 hx;exact hn j hj
 unfold pt;rw[this]
theorem KH {α:Type}(p:α->Bool)(l:List α):decide (pt p l>=0)=l.any p:=by
 unfold pt;cases h:l.findIdx? p with
 |none=>
  rw[Yn]at h;have:l.any p=false:=by rw[Yh];intro x hx;simp[h x hx]
  rw[this];rfl
 |some i=>
  rw[XI]at h;obtain⟨hi,hp,_⟩:=h;have:l.any p=true:=by rw[XU];exact⟨l[i],Ye hi,hp⟩
  rw[this];simp
def P6 {α:Type}(P:Program)(g:Nat)(lb:Array Value)(R:List Value->α->Prop)(p:α->Bool)(l:List α)(w:World):Prop:=
 ∀W,cM w W->∀x∈l,∀cs,R cs x->Calls P g (#[.agg cs.toArray]++lb) W fun e w'=>e= .returned (.bool (p x))/\cM W w'
end
section
open Go.Proofs
theorem Gm {α:Type}{A:nC}{R:List Value->α->Prop}(g:Nat)(lb:Array Value)(eg:∀args w,(callFunc g args).run prog w= .ok (.enter g args) w)(p:α->Bool)(l:List α)(ao:Option Addr)(cap:Nat)(w:World)(h:Sl A w 2 R ao cap l)(hp:P6 prog g lb R p l w):
 Calls prog 206 #[.slice ao l.length cap,.func (.func g) #[] lb] w fun e w'=>e= .returned (.int .i64 (pt p l))/\cM w w':=by
 have gU:=h.cap_le;have JS:=h.cap_max;obtain⟨r,hr⟩:∃r,r=pt p l:=⟨_,rfl⟩;rw[<-hr];replace hr:=Xj hr;replace hp:=Xj hp;go_enter func206,ntmps206
 go_wp2_with fail
 go_loopw [5,8] (fun _ s8 wr=>∃k:Nat,k<=l.length/\s8= .int .i64 k/\Hid (∀j (h:j < k) (h':j < l.length),p l[j]=false)/\cM w wr) (fun _ s8 _=>l.length - (intOf s8).toNat)
 case atStart=>exact⟨0,XD _,rfl,Xj (fun j hj=>absurd hj (YH _)),Below.refl _ w⟩
 case round=>
  obtain⟨k,hk,rfl,bo,hx⟩:=hrel;by_cases hlt:k < l.length
  ·have ed:(k:Int) < (l.length:Int):=aa;obtain⟨b,off,cs,rfl,-,bB,hR,eV⟩:=h.elem k hlt;have jW:=hp.out wr hx l[k] (Ye hlt) cs hR;replace eV:=fh hx eV;obtain⟨q,hq⟩:∃q,q=p l[k]:=⟨_,rfl⟩;rw[<-hq]at jW;replace hq:=Xj hq;clear h hR;match cs,bB with
   |[v0,v1],_=>
    obtain⟨k0,k1⟩:=ko eV;clear eV;replace jW:=Xj jW;cases q
    case true=>
     go_wp2_with fail
     refine jW.out.mono ?_;rintro e w1 ⟨rfl,nq⟩;go_wp2_with fail
     go_ret
     exact⟨b9 (by rw[hr.out];exact(KF hlt hq.out.symm fun j hj=>bo.out j hj aa).symm),al hx nq⟩
    case false=>
     go_wp2_with fail
     refine jW.out.mono ?_;rintro e w1 ⟨rfl,nq⟩;go_wp2_with fail
     go_roundw
     case rel=>exact⟨k+1,by omega,by go_num,Xj (fun j hj hj'=>by
      rcases _g (_o hj)with h1|h1
      ·exact bo.out j h1 hj'
      ·subst h1;exact hq.out.symm),al hx nq⟩
     case measure=>simp[intOf];omega
  ·have ed:¬(k:Int) < (l.length:Int):=aa;obtain rfl:k=l.length:=aa;go_wp2_with fail
   go_ret
   exact⟨b9 (by rw[hr.out];exact(Gl fun j hj=>bo.out j hj hj).symm),hx⟩
theorem zf {α:Type}{A:nC}{R:List Value->α->Prop}(g:Nat)(lb:Array Value)(eg:∀args w,(callFunc g args).run prog w= .ok (.enter g args) w)(p:α->Bool)(l:List α)(ao:Option Addr)(cap:Nat)(w:World)(h:Sl A w 2 R ao cap l)(hp:P6 prog g lb R p l w):
 Calls prog 122 #[.slice ao l.length cap,.func (.func g) #[] lb] w fun e w'=>e= .returned (.bool (l.any p))/\cM w w':=by
 have hc:=Gm g lb eg p l ao cap w h hp;have ha:=KH p l;obtain⟨r,hr⟩:∃r,r=pt p l:=⟨_,rfl⟩;rw[<-hr]at hc ha;rw[<-ha];clear hr ha h hp;replace hc:=Xj hc;go_enter func122,ntmps122
 go_wp2_with fail
 refine hc.out.mono ?_;rintro e w1 ⟨rfl,nq⟩;go_wp2_with fail
 go_ret
 exact⟨rfl,nq⟩
end
section
open Go.Proofs
theorem T4 {A:nC}(v:Pfx)(l:List Pfx)(ao:Option Addr)(cap:Nat)(w:World)(h:Sl A w 2 Pfx.R ao cap l):
 Calls prog 376 #[.slice ao l.length cap,.agg #[.int .i64 v.at_,.int .i64 v.len]] w fun e w'=>e= .returned (.int .i64 (pt (fun x=>decide (v=x)) l))/\cM w w':=by
 have gU:=h.cap_le;have JS:=h.cap_max;obtain⟨r,hr⟩:∃r,r=pt (fun x=>decide (v=x)) l:=⟨_,rfl⟩;rw[<-hr];replace hr:=Xj hr;go_enter func376,ntmps376
 go_wp2_with fail
 go_loopw [5,8] (fun _ s8 wr=>∃k:Nat,k<=l.length/\s8= .int .i64 k/\Hid (∀j (h:j < k) (h':j < l.length),decide (v=l[j])=false)/\cM (w.alloc (.cells #[.int .i64 v.at_,.int .i64 v.len] 23)) wr) (fun _ s8 _=>l.length - (intOf s8).toNat)
 case atStart=>exact⟨0,XD _,rfl,Xj (fun j hj=>absurd hj (YH _)),Below.refl _ _⟩
 case round=>
  obtain⟨k,hk,rfl,bo,hx⟩:=hrel;by_cases hlt:k < l.length
  ·have ed:(k:Int) < (l.length:Int):=aa;obtain⟨b,off,cs,rfl,-,bB,hR,eV⟩:=h.elem k hlt;replace eV:=fh hx (fh (az _ _) eV);unfold Pfx.R at hR;subst hR;obtain⟨k0,k1⟩:=ko eV;have p0:wr.cell? ⟨w.heap.size,0,none⟩=some (.int .i64 v.at_):=aU hx ah;have p1:wr.cell? ⟨w.heap.size,1,none⟩=some (.int .i64 v.len):=aU hx ah;have lb:=cW k0;have lp:=cW p0;obtain⟨y,hy⟩:∃y,y=l[k]:=⟨_,rfl⟩;rw[<-hy]at k0 k1;replace hy:=Xj hy;clear eV h;by_cases e0:v.at_=y.at_
   ·by_cases e1:v.len=y.len
    ·have he:decide (v=y)=true:=by simp;cases v;cases y;simp_all
     replace he:=Xj he;go_wp2_with fail
     refine SN ?_;refine dY ?_;intro w2 cj;obtain⟨dB,dr⟩:=aV cj;have dC:=bv cj;(try simp only[Xs,ae,Xw,Xu]at dB dr dC)
     go_wp2_with fail
     go_ret
     exact⟨b9 (by rw[hr.out];exact(KF hlt (by rw[<-hy.out];exact he.out) fun j hj=>bo.out j hj aa).symm),al (az _ _) (al hx cj)⟩
    ·have he:decide (v=y)=false:=by simp;intro h;exact e1 (by rw[h])
     replace he:=Xj he;go_wp2_with fail
     refine SN ?_;refine dY ?_;intro w2 cj;obtain⟨dB,dr⟩:=aV cj;have dC:=bv cj;(try simp only[Xs,ae,Xw,Xu]at dB dr dC)
     go_wp2_with fail
     go_roundw
     case rel=>exact⟨k+1,by omega,by go_num,Xj (fun j hj hj'=>by
      rcases _g (_o hj)with h1|h1
      ·exact bo.out j h1 hj'
      ·subst h1;rw[<-hy.out];exact he.out),al hx cj⟩
     case measure=>simp[intOf];omega
   ·have he:decide (v=y)=false:=by simp;intro h;exact e0 (by rw[h])
    replace he:=Xj he;go_wp2_with fail
    refine SN ?_;refine dY ?_;intro w2 cj;obtain⟨dB,dr⟩:=aV cj;have dC:=bv cj;(try simp only[Xs,ae,Xw,Xu]at dB dr dC)
    go_wp2_with fail
    go_roundw
    case rel=>exact⟨k+1,by omega,by go_num,Xj (fun j hj hj'=>by
     rcases _g (_o hj)with h1|h1
     ·exact bo.out j h1 hj'
     ·subst h1;rw[<-hy.out];exact he.out),al hx cj⟩
    case measure=>simp[intOf];omega
  ·have ed:¬(k:Int) < (l.length:Int):=aa;obtain rfl:k=l.length:=aa;go_wp2_with fail
   go_ret
   exact⟨b9 (by rw[hr.out];exact(Gl fun j hj=>bo.out j hj hj).symm),al (az _ _) hx⟩
theorem IV {A:nC}(v:Pfx)(l:List Pfx)(ao:Option Addr)(cap:Nat)(w:World)(h:Sl A w 2 Pfx.R ao cap l):
 Calls prog 365 #[.slice ao l.length cap,.agg #[.int .i64 v.at_,.int .i64 v.len]] w fun e w'=>e= .returned (.bool (l.contains v))/\cM w w':=by
 have hc:=fun W (h:Sl A W 2 Pfx.R ao cap l)=>T4 v l ao cap W h;have ha:=KH (fun x=>decide (v=x)) l;have hb:l.contains v=l.any (fun x=>decide (v=x)):=by
  rw[Yk];simp
 rw[<-hb]at ha;obtain⟨r,hr⟩:∃r,r=pt (fun x=>decide (v=x)) l:=⟨_,rfl⟩;rw[<-hr]at ha;simp only[<-hr]at hc;rw[<-ha];clear hr ha hb;replace hc:=Xj hc;go_enter func365,ntmps365
 go_wp2_with fail
 refine(hc.out _ (h.ext (az _ _))).mono ?_;rintro e w1 ⟨rfl,nq⟩;go_wp2_with fail
 go_ret
 exact⟨rfl,al (az _ _) nq⟩
end
theorem a5a {p:Prop}(h:p:=by
 subst lf;exact hy.wpOp HQ hw fun w' hw'=>⟨EX.of hw',lo,hi,Xz _,Xz _,H.world (hw.trans (EX.of hw'))⟩):p:=h
structure EX (lo hi:Nat)(w w':World):Prop where
 os:w'.os=w.os
 tape:w'.tape=w.tape
 output:w'.output=w.output
 size:w.heap.size<=w'.heap.size
 block:∀b,b < w.heap.size->(b < lo\/hi<=b)->w'.heap[b]? =w.heap[b]?
 there:∀b o,b < w.heap.size->(w.cell? ⟨b,o,none⟩).isSome=true->(w'.cell? ⟨b,o,none⟩).isSome=true
 free:∀b o,b < w.heap.size->w'.frozen? ⟨b,o,none⟩=w.frozen? ⟨b,o,none⟩
theorem EX.refl {lo hi:Nat}(w:World):EX lo hi w w:=⟨rfl,rfl,rfl,Xz _,fun _ _ _=>rfl,fun _ _ _ h=>h,fun _ _ _=>rfl⟩
theorem EX.trans {lo hi:Nat}{a b c:World}(h:EX lo hi a b)(k:EX lo hi b c):EX lo hi a c:=
 ⟨k.os.trans h.os,k.tape.trans h.tape,k.output.trans h.output,Yy h.size k.size,fun i hi hx=>(k.block i (Yx hi h.size) hx).trans (h.block i hi hx),
  fun i o hi hs=>k.there i o (Yx hi h.size) (h.there i o hi hs),fun i o hi=>(k.free i o (Yx hi h.size)).trans (h.free i o hi)⟩
theorem EX.of {lo hi:Nat}{w w':World}(h:cM w w'):EX lo hi w w':=
 ⟨h.os,h.tape,h.output,h.size,fun b hb _=>h.block b hb,fun b o hb hs=>by rw[(aV h).1 b o hb];exact hs,fun b o hb=>(aV h).2 b o hb⟩
theorem EX.mono {lo hi lo' hi':Nat}{w w':World}(h1:lo<=lo')(h2:hi'<=hi)(h:EX lo' hi' w w'):EX lo hi w w':=
 ⟨h.os,h.tape,h.output,h.size,fun b hb hx=>h.block b hb aa,h.there,h.free⟩
theorem EX.cell {lo hi:Nat}{w w':World}(h:EX lo hi w w'){b o:Nat}(hb:b < w.heap.size)(hx:b < lo\/hi<=b):w'.cell? ⟨b,o,none⟩=w.cell? ⟨b,o,none⟩:=
 Zw (w:=w) (h.block b hb hx)
theorem EX.setCell {lo hi:Nat}{w w':World}(h:EX lo hi w w'){b o:Nat}(h1:lo<=b)(h2:b < hi)(v:Value):EX lo hi w (w'.setCell ⟨b,o,none⟩ v):=by
 refine⟨h.os,h.tape,h.output,by rw[ae];exact h.size,fun i hi hx=>(df v (by show b≠i;omega)).trans (h.block i hi hx),fun i j hi hs=>?_,fun i j hi=>?_⟩
 ·have h3:=h.there i j hi hs;obtain⟨u,hu⟩:=Zo.1 h3;obtain⟨u',hu'⟩:=cell?_setCell_some (w:=w') (p:=⟨b,o,none⟩) (x:=v) (q:=⟨i,j,none⟩) (v:=u) hu;rw[hu'];rfl
 ·rw[World.frozen?_setCell];exact h.free i j hi
theorem EX.drew {lo hi:Nat}{w w':World}(h:EX lo hi w w'):EX lo hi w w'.drew:=h.trans (EX.of ((Below.refl _ _).drew))
theorem EX.bel {lo hi B:Nat}{a w w':World}(h:Bel B a w)(hx:EX lo hi w w')(hB:B<=lo):Bel B a w':=
 ⟨h.bel.trans ⟨hx.os,hx.tape,hx.output,hx.size,fun k hk=>hx.block k (Yx hk h.le) (.inl (Yx hk hB))⟩,Yy h.le hx.size⟩
theorem EX.some {lo hi:Nat}{w w':World}(h:EX lo hi w w'){b o:Nat}{v:Value}(hc:w.cell? ⟨b,o,none⟩=some v):∃u,w'.cell? ⟨b,o,none⟩=some u:=by
 have:=h.there b o (cW hc) (by rw[hc];rfl);exact Zo.1 this
theorem HA {lo hi:Nat}{w w':World}(h:EX lo hi w w')(hl:lo<=w.heap.size):∀b o,b < lo->w'.cell? ⟨b,o,none⟩=w.cell? ⟨b,o,none⟩:=fun b o hb=>h.cell aa (.inl hb)
theorem EX.hi {lo hi:Nat}{w w':World}(h:EX lo hi w w'):∀b o,hi<=b->b < w.heap.size->w'.cell? ⟨b,o,none⟩=w.cell? ⟨b,o,none⟩:=fun b o hb h2=>h.cell h2 (.inr hb)
section
variable {P:Program}{ops:Array Oper}{Q:Exit->Act->World->Prop}
def GX (P:Program)(ops:Array Oper)(Q:Exit->Act->World->Prop):Nat->Array Bool->Act->Nat->Nat->World->Prop
 |0,listed,a,lo,hi,W=>Region.ready .any ops listed=[]/\∀w,EX lo hi W w->Q .normal a w
 |fuel+1,listed,a,lo,hi,W=>∀w,EX lo hi W w->(Region.ready .any ops listed=[]->Q .normal a w)/\
  ∀i∈Region.ready .any ops listed,wpOp P ops Q i (fun a' w'=>EX lo hi w w'/\∃lo' hi',lo<=lo'/\hi'<=hi/\GX P ops Q fuel (listed.setIfInBounds i true) a' lo' hi' w') a w
theorem GX.world:∀{fuel:Nat}{listed:Array Bool}{a:Act}{lo hi:Nat}{W W':World},EX lo hi W W'->GX P ops Q fuel listed a lo hi W->GX P ops Q fuel listed a lo hi W'
 |0,_,_,_,_,_,_,hx,h=>⟨h.1,fun w hw=>h.2 w (hx.trans hw)⟩
 |_+1,_,_,_,_,_,_,hx,h=>fun w hw=>h w (hx.trans hw)
theorem GX.any:∀{fuel:Nat}{listed:Array Bool}{a:Act}{lo hi:Nat}{W:World},GX P ops Q fuel listed a lo hi W->wpAny P .any ops Q fuel listed a W
 |0,_,_,_,_,_,h=>⟨h.1,h.2 _ (EX.refl _)⟩
 |_+1,_,_,_,_,W,h=>⟨(h W (EX.refl _)).1,fun i hi=>wpOp_mono (fun _ _ ⟨_,_,_,_,_,h'⟩=>GX.any h') ((h W (EX.refl _)).2 i hi)⟩
def QX (P:Program)(ops:Array Oper)(lo hi:Nat)(W:World)(o:Oper)(v:Value)(a:Act):Prop:=
 (Region.wanted o (yielded ops a.tmps)=true/\∀w,EX lo hi W w->o.quietAt P a (cM w) w v)\/
 (Region.wanted o (yielded ops a.tmps)=false/\v=undef)
theorem QX.world {lo hi lo' hi':Nat}{W W':World}{o:Oper}{v:Value}{a:Act}(h1:lo<=lo')(h2:hi'<=hi)(hx:EX lo hi W W')(h:QX P ops lo hi W o v a):QX P ops lo' hi' W' o v a:=
 h.imp (fun⟨g1,g2⟩=>⟨g1,fun w hw=>g2 w (hx.trans (hw.mono h1 h2))⟩) id
theorem QX.of_same {lo hi:Nat}{W:World}{o:Oper}{v:Value}{a a':Act}(hy:QX P ops lo hi W o v a)(he:execOp a'.eval o=execOp a.eval o)
 (hw:Region.wanted o (yielded ops a'.tmps)=Region.wanted o (yielded ops a.tmps)):QX P ops lo hi W o v a':=by
 unfold QX Oper.quietAt at*;rw[he,hw];exact hy
theorem QX.wpOp {lo hi:Nat}{W:World}{i:Nat}{o:Oper}{v:Value}{a:Act}(hi':ops[i]? =some o)(hy:QX P ops lo hi W o v a){K:Act->World->Prop}{w:World}(hw:EX lo hi W w)(h:∀w',cM w w'->K (a.put o.dst v) w'):wpOp P ops Q i K a w:=by
 unfold Go.wpOp;simp only[hi'];rcases hy with⟨Ey,hv⟩|⟨Ey,rfl⟩
 ·simp only[Ey,if_true];left;have h3:=hv w hw;unfold Oper.quietAt at h3;unfold Oper.wp;generalize (execOp a.eval o).run P w=r at*;cases r with
  |ok n w'=>
   cases n<;>simp only[Oper.quietUpon]at h3<;>simp only[Oper.upon]
   case value u=>
    obtain⟨e1,e2⟩:=h3;rw[e1,e2];exact h _ (Below.refl _ _)
   case skip=>
    obtain⟨e1,e2⟩:=h3;rw[e1,<-e2];exact h _ (Below.refl _ _)
   case enter f args=>
    obtain⟨e1,hc⟩:=h3;rw[e1];exact hc.mono fun e w'' ⟨he,hw''⟩=>by subst he;exact h _ hw''
  |halt x w'=>simp only[Oper.quietUpon]at h3
 ·exact a6p
theorem M6 {lo hi:Nat}{W:World}{j:Nat}{oi oj:Oper}{v:Value}(hj:ops[j]? =some oj)(LC:oi.apart ops oj=true)
 (H5:∀cs b,oi.op≠ .select cs b) (VZ:∀cs b,oj.op≠ .select cs b)
 (hQ:∀c a w,Q (.panic c) (a.put oi.dst v) w->Q (.panic c) a w) {K:Act->World->Prop}{a:Act}{w:World}
 (hy:QX P ops lo hi W oi v a) (h:wpOp P ops Q j K (a.put oi.dst v) w):
 wpOp P ops Q j (fun a' w'=>QX P ops lo hi W oi v a'/\K (a'.put oi.dst v) w') a w:=by
 obtain⟨h1,h2,h3⟩:=Oper.apart_spec LC;have keep:∀(a:Act),QX P ops lo hi W oi v a->∀u,QX P ops lo hi W oi v (a.put oj.dst u):=fun a hy u=>
  hy.of_same (execOp_put oi H5 a oj.dst u h3) (wanted_put oi a oj.dst u h3)
 have keepD:∀d,QX P ops lo hi W oi v {a with defers:=d::a.defers}:=fun d=>hy.of_same rfl rfl;unfold wpOp at*;simp only[hj]at*;rw[wanted_put oj a oi.dst v h1]at h;split
 ·exact LE
 ·exact a4e
theorem P7 {i:Nat}{oi:Oper}{v:Value}(HQ:ops[i]? =some oi)(HL:∀(j:Nat) (o:Oper) cs b,ops[j]? =some o->o.op≠ .select cs b)
 (hQ:∀c a w,Q (.panic c) (a.put oi.dst v) w->Q (.panic c) a w):
 ∀(fuel:Nat) (listed:Array Bool) (a:Act) (lo hi:Nat) (W:World),
  (∀j oj,ops[j]? =some oj->j≠i->listed.getD j true=false->(∀e∈oj.after,Region.binds .any e=true->e.on≠i)->oi.apart ops oj=true)->
  i∈Region.ready .any ops listed->QX P ops lo hi W oi v a->
  GX P ops Q fuel (listed.setIfInBounds i true) (a.put oi.dst v) lo hi W->GX P ops Q (fuel+1) listed a lo hi W:=by
 intro fuel;induction fuel with
 |zero=>
  intro listed a lo hi W _ hr hy H w hw;refine⟨fun h=>(by rw[h]at hr;cases hr),fun j hj=>?_⟩;by_cases lf:j=i
  ·exact a5a
  ·exact a5p
 |succ fuel ih=>
  intro listed a lo hi W w8 hr hy H w hw;refine⟨fun h=>(by rw[h]at hr;cases hr),fun j hj=>?_⟩;by_cases lf:j=i
  ·exact a5a
  ·have h1:=(H w hw).2 j (ready_mono hj lf);obtain⟨HM,oj,Sb,bo⟩:=mem_ready.1 hj;have Sc:∀e∈oj.after,Region.binds .any e=true->e.on≠i:=fun e he hb heq=>by
    have h1:=bo e he hb;have h0:=(mem_ready.1 hr).1;rw[heq]at h1;rcases XM i listed.size with h'|h'
    ·exact a5R
    ·simp[Yo h']at h1
   have h2:=M6 Sb (w8 j oj Sb lf HM Sc) (fun cs b=>HL i oi cs b HQ) (fun cs b=>HL j oj cs b Sb) hQ (hy.world (Xz _) (Xz _) hw) h1;have AE:∀k ok,ops[k]? =some ok->k≠i->(listed.setIfInBounds j true).getD k true=false->
    (∀e∈ok.after,Region.binds .any e=true->e.on≠i)->oi.apart ops ok=true:=fun k ok hk Sd V0 cg=>by
    refine w8 k ok hk Sd ?_ cg;by_cases Ez:j=k
    ·subst Ez;exact HM
    ·exact a5S
   refine wpOp_mono (fun a' w' ⟨h3,h4,lo',hi',h5,h6,h7⟩=>⟨h4,lo',hi',h5,h6,ih (listed.setIfInBounds j true) a' lo' hi' w' AE (ready_mono hr (Ne.symm lf)) (h3.world h5 h6 h4) ?_⟩) h2;rw[Array.setIfInBounds_comm _ _ lf];exact h7
def kT (P:Program)(ops:Array Oper)(Q:Exit->Act->World->Prop):List Oper->Nat->Array Bool->Act->Nat->Nat->World->Prop
 |[],_,_,a,lo,hi,W=>∀w,EX lo hi W w->Q .normal a w
 |o::rest,k,listed,a,lo,hi,W=>
  (∃v,QX P ops lo hi W o v a/\kT P ops Q rest (k+1) (listed.setIfInBounds k true) (a.put o.dst v) lo hi W)\/
  (Region.ready .any ops listed=[k]/\Region.wanted o (yielded ops a.tmps)=true/\∀w,EX lo hi W w->o.wp P a w (fun a' w'=>EX lo hi w w'/\∃lo' hi',lo<=lo'/\hi'<=hi/\kT P ops Q rest (k+1) (listed.setIfInBounds k true) a' lo' hi' w') Q)
theorem vB (hs:Region.noSelect ops=true)(hQ:∀c a d v w,Q (.panic c) (a.put d v) w->Q (.panic c) a w):∀(l:List Oper) (k:Nat) (listed:Array Bool) (a:Act) (lo hi:Nat) (W:World),(∀j,l[j]? =ops[k+j]?)->
 Region.lexFrom .any ops l.length k listed=true->kT P ops Q l k listed a lo hi W->GX P ops Q l.length listed a lo hi W
 |[],_,_,_,_,_,_,_,hB,h=>⟨by simpa[Region.lexFrom]using hB,h⟩
 |o::l,k,listed,a,lo,hi,W,hl,hB,h=>by
  have h0:ops[k]? =some o:=by simpa using (hl 0).symm
  simp only[Xx,Region.lexFrom,Xt]at hB;obtain⟨⟨hr,hf⟩,hB'⟩:=hB;have hl':∀j,l[j]? =ops[k+1+j]? :=fun j=>by have:=hl (j+1);simpa[Zh,Nat.add_comm 1 j]using this
  rcases h with⟨v,hy,hK⟩|⟨dL,Ey,hK⟩
  ·exact P7 h0 (Region.noSelect_spec hs) (fun c a w=>hQ c a _ _ w) l.length listed a lo hi W (Region.free_spec h0 hf) (by simpa using hr) hy (vB hs hQ l (k+1) _ _ _ _ _ hl' hB' hK)
  ·intro w hw;refine⟨fun h=>by rw[dL]at h;simp at h,fun i hi'=>?_⟩;rw[dL]at hi';obtain rfl:i=k:=by simpa using hi'
   unfold wpOp;simp only[h0,Ey,if_true];left;exact Oper.wp_mono (fun a' w' ⟨h1,lo',hi',h2,h3,h4⟩=>⟨h1,lo',hi',h2,h3,vB hs hQ l (i+1) _ _ _ _ _ hl' hB' h4⟩) (hK w hw)
theorem IW {id:Nat}{a:Act}{w:World}{l:List Oper}(lo hi:Nat)(hm:P.follows .mixedOrders=true)(hB:Region.lexB .any l.toArray=true)(hQ:∀c a d v w,Q (.panic c) (a.put d v) w->Q (.panic c) a w)
 (h:kT P l.toArray Q l 0 (Za l.length false) a lo hi w):(Code.region id l.toArray true).wp P Q a w:=by
 simp only[Region.lexB,Xt]at hB;refine wp_region_any hm ?_;have h2:=vB hB.1 hQ l 0 (Za l.length false) a lo hi w ah (by simpa using hB.2) h;have h3:=(h2.world (EX.of ((Below.refl _ _).drew:cM w w.drew))).any;simpa using h3
section
variable {o:Oper}{rest:List Oper}{k lo hi:Nat}{listed:Array Bool}{a:Act}{W:World}
theorem T5 (h:∀w,EX lo hi W w->Q .normal a w):kT P ops Q [] k listed a lo hi W:=h
theorem zg (hw:Region.wanted o (yielded ops a.tmps)=false)(hn:kT P ops Q rest (k+1) (listed.setIfInBounds k true) (a.put o.dst undef) lo hi W):kT P ops Q (o::rest) k listed a lo hi W:=
 .inl ⟨undef,.inr ⟨hw,rfl⟩,hn⟩
theorem zh {j d:Nat}{v:Value}(hg:o.guard=some (j,true))(hd:(ops[j]?).bind (·.dst)=some d)(hv:a.tmps.toList[d]? =some v)(hb:v= .bool false)(hn:kT P ops Q rest (k+1) (listed.setIfInBounds k true) (a.put o.dst undef) lo hi W):kT P ops Q (o::rest) k listed a lo hi W:=
 zg (by simp[Region.wanted,hg,gY hd hv hb]) hn
theorem zi {j d:Nat}{v:Value}(hg:o.guard=some (j,false))(hd:(ops[j]?).bind (·.dst)=some d)(hv:a.tmps.toList[d]? =some v)(hb:v= .bool true)(hn:kT P ops Q rest (k+1) (listed.setIfInBounds k true) (a.put o.dst undef) lo hi W):kT P ops Q (o::rest) k listed a lo hi W:=
 zg (by simp[Region.wanted,hg,gY hd hv hb]) hn
theorem zj {j d:Nat}{v:Value}{b:Bool}(hg:o.guard=some (j,b))(hd:(ops[j]?).bind (·.dst)=some d)(hv:a.tmps.toList[d]? =some v)(hb:v=undef)(hn:kT P ops Q rest (k+1) (listed.setIfInBounds k true) (a.put o.dst undef) lo hi W):kT P ops Q (o::rest) k listed a lo hi W:=
 zg (by simp[Region.wanted,hg,oJ hd hv hb]) hn
theorem Gn {v:Value}(hw:Region.wanted o (yielded ops a.tmps)=true)(h:∀w,EX lo hi W w->∀R:Value->Prop,R v->qUp P w w R ((execOp a.eval o).run P w))
 (hn:kT P ops Q rest (k+1) (listed.setIfInBounds k true) (a.put o.dst v) lo hi W):kT P ops Q (o::rest) k listed a lo hi W:=
 .inl ⟨v,.inl ⟨hw,fun w hw=>uI (h w hw)⟩,hn⟩
theorem Cr (hr:Region.ready .any ops listed=[k])(hw:Region.wanted o (yielded ops a.tmps)=true)
 (h:∀w,EX lo hi W w->∀K:Act->World->Prop,(∀a' w' lo' hi',lo<=lo'->hi'<=hi->EX lo hi w w'->kT P ops Q rest (k+1) (listed.setIfInBounds k true) a' lo' hi' w'->K a' w')->o.wp P a w K Q):kT P ops Q (o::rest) k listed a lo hi W:=
 .inr ⟨hr,hw,fun w hw=>h w hw _ fun _ _ lo' hi' g1 g2 h1 h2=>⟨h1,lo',hi',g1,g2,h2⟩⟩
end
end
section
open Go.Proofs
theorem WE (a l:Int)(h:bF a l=true)(hl:l < 16):bits .or .i64 a (IE (l+1)+1)=a+eX (l+1):=by
 obtain⟨g1,g2,g3,g4,g5⟩:=d5 h;obtain⟨n,rfl⟩:=ZN g3;have e1:IE (l+1)+1=((2 ^ (16 - (l+1)).toNat:Nat):Int):=by simp[IE]
 have e2:eX (l+1)=((2 ^ (16 - (l+1)).toNat:Nat):Int):=by simp[eX]
 obtain⟨k,hk⟩:∃k,k=(16 - (l+1)).toNat:=⟨_,rfl⟩;have e3:(16 - l).toNat=k+1:=aa;rw[e1,e2,<-hk];have a2G:k<=15:=aa;have hp:2 ^ k<=2 ^ 15:=Nat.pow_le_pow_right aa a2G;have g6:n % 2 ^ (k+1)=0:=by
  unfold eX at g5;rw[e3]at g5;exact_mod_cast g5
 have hn:n=2 ^ (k+1)*(n / 2 ^ (k+1)):=by have:=Nat.div_add_mod n (2 ^ (k+1));omega
 have hor:n|||2 ^ k=n+2 ^ k:=by
  rw[hn];exact(Nat.two_pow_add_eq_or_of_lt (Nat.pow_lt_pow_right aa aa) _).symm
 show IntKind.i64.wrap ((BitVec.ofInt 64 (n:Int)|||BitVec.ofInt 64 ((2 ^ k:Nat):Int)).toNat:Int)=_;rw[BitVec.toNat_or,lS n aa,lS _ aa,hor,IntKind.wrap_i64];omega
def Cs:Value:= .agg #[.int .i64 0,.int .i64 0]
def qW (a l:Int):Value:=
 if chk a l=0 then (if l=16 then .tuple #[Cs,Cs,.int .i64 3]else .tuple #[.agg #[.int .i64 a,.int .i64 (l+1)],.agg #[.int .i64 (a+eX (l+1)),.int .i64 (l+1)],.int .i64 0])
 else .tuple #[Cs,Cs,.int .i64 (chk a l)]
theorem zk (a l:Int)(w:World):
 Calls prog 364 #[.agg #[.int .i64 a,.int .i64 l]] w fun e w'=>e= .returned (qW a l)/\cM w w':=by
 have hc:=qT a l;unfold qW Cs;by_cases h0:chk a l=0
 ·have hR:bF a l=true:=by simp[bF,h0]
  obtain⟨g1,g2,g3,g4,g5⟩:=d5 hR;rw[aj h0];rw[h0]at hc;replace hc:=Xj hc;clear h0;by_cases Dc:l=16
  ·rw[aj Dc];have a2H:(l==16)=true:=by simp[Dc]
   clear Dc;go_enter func364,ntmps364
   go_wp2_with fail
   refine(hc.out _).mono ?_;rintro e w1 ⟨rfl,ci⟩;obtain⟨cm,cq⟩:=aV ci;have ct:=bv ci;(try simp only[Xs,ae,Xw,Xu]at cm cq ct)
   go_wp2_with fail
   refine bodyPost_ret ?_ rfl ⟨rfl,Bel.bel (B:=_) ?_⟩
   ·simp[results,results364,go_sem,cm]
   ·exact dM
  ·rw[af Dc];have a2H:(l==16)=false:=by simp[Dc]
   have hor:=WE a l hR aa;obtain⟨z1,z2⟩:=sn (l+1) aa;have db:IntKind.i64.wrap (IE (l+1)+1)=IE (l+1)+1:=IntWalk.i64_in _ aa;have hmk:=fun W=>p6 (l+1) W aa aa;replace hmk:=Xj hmk;clear Dc;go_enter func364,ntmps364
   go_wp2_with fail
   refine(hc.out _).mono ?_;rintro e w1 ⟨rfl,ci⟩;obtain⟨cm,cq⟩:=aV ci;have ct:=bv ci;(try simp only[Xs,ae,Xw,Xu]at cm cq ct)
   have l1:w.heap.size < w1.heap.size:=aa;have l2:w.heap.size+1 < w1.heap.size:=aa;have l3:w.heap.size+1+1 < w1.heap.size:=aa;go_wp2_with fail
   refine IW (w.heap.size+1) (w.heap.size+3) aJ aJ (fun _ _ d _ _ h=>by cases d<;>exact h) ?_;repeat(first|((first|refine zh rfl rfl rfl cG ?_|refine zi rfl rfl rfl cG ?_|refine zj rfl rfl rfl cG ?_);simp only[Act.put,XO,XQ,XZ])|(apply Gn;(first|exact dG rfl|exact ei rfl rfl rfl cG);intro wq iP R hR;((have mX:=HA iP (by first|omega|(simp;omega)|(simp;done));have hcd:=EX.hi iP;(try simp only[Xs,ae,Xw,Xu]at mX hcd));go_simp;first|exact hR|((go_at_call 235;exact ss (hmk.out _) hR)));simp only[Act.put,XO,XQ,XZ]))
   refine Cr aJ (by first|exact dG rfl|exact ei rfl rfl rfl cG) (fun w2 cj K hK=>?_);have dC:=cj.size;have a2I:=HA cj (by first|omega|(simp;omega)|(simp;done));have a2J:=EX.hi cj;have dr:=cj.free;(try simp only[Xs,ae,Xw,Xu]at dC a2I a2J dr)
   (try have l0w2:w.heap.size < w2.heap.size:=by omega)
   (try have l1w2:w.heap.size+1 < w2.heap.size:=by omega)
   (try have l2w2:w.heap.size+1+1 < w2.heap.size:=by omega)
   (try have l3w2:w.heap.size+1+1+1 < w2.heap.size:=by omega)
   obtain⟨u0w2,a1N⟩:=cj.some (b:=w.heap.size+1) (o:=0) (v:=_) LL;obtain⟨u1w2,a1O⟩:=cj.some (b:=w.heap.size+1) (o:=1) (v:=_) LL;go_simp
   refine hK _ _ (w.heap.size+2) (w.heap.size+3) aa aa (by repeat(first|exact EX.refl _|refine EX.setCell ?_ aa aa _)) ?_;clear hK K;obtain⟨v0,HE⟩:=cj.some (b:=w.heap.size+1+1) (o:=0) (v:=_) LL;obtain⟨v1,ry⟩:=cj.some (b:=w.heap.size+1+1) (o:=1) (v:=_) LL;refine Cr aJ (by first|exact dG rfl|exact ei rfl rfl rfl cG) (fun w3 rl K hK=>?_);have J0:=rl.size;have a1P:=HA rl (by first|omega|(simp;omega)|(simp;done));have a2K:=EX.hi rl;have HR:=rl.free;(try simp only[Xs,ae,Xw,Xu]at J0 a1P a2K HR)
   (try have l0w3:w.heap.size < w3.heap.size:=by omega)
   (try have l1w3:w.heap.size+1 < w3.heap.size:=by omega)
   (try have l2w3:w.heap.size+1+1 < w3.heap.size:=by omega)
   (try have l3w3:w.heap.size+1+1+1 < w3.heap.size:=by omega)
   obtain⟨u0w3,a1Q⟩:=rl.some (b:=w.heap.size+1+1) (o:=0) (v:=_) LL;obtain⟨u1w3,a1R⟩:=rl.some (b:=w.heap.size+1+1) (o:=1) (v:=_) LL;go_simp
   refine hK _ _ (w.heap.size+3) (w.heap.size+3) aa aa (by repeat(first|exact EX.refl _|refine EX.setCell ?_ aa aa _)) ?_;clear hK K;repeat(first|((first|refine zh rfl rfl rfl cG ?_|refine zi rfl rfl rfl cG ?_|refine zj rfl rfl rfl cG ?_);simp only[Act.put,XO,XQ,XZ])|(apply Gn;(first|exact dG rfl|exact ei rfl rfl rfl cG);intro wq iP R hR;((have mX:=HA iP (by first|omega|(simp;omega)|(simp;done));have hcd:=EX.hi iP;(try simp only[Xs,ae,Xw,Xu]at mX hcd));go_simp;first|exact hR|(fail));simp only[Act.put,XO,XQ,XZ]))
   refine T5 ?_;intro w4 ED;have Sk:=ED.size;have a1S:=HA ED (by first|omega|(simp;omega)|(simp;done));have a2L:=EX.hi ED;have Sm:=ED.free;(try simp only[Xs,ae,Xw,Xu]at Sk a1S a2L Sm)
   (try have l0w4:w.heap.size < w4.heap.size:=by omega)
   (try have l1w4:w.heap.size+1 < w4.heap.size:=by omega)
   (try have l2w4:w.heap.size+1+1 < w4.heap.size:=by omega)
   (try have l3w4:w.heap.size+1+1+1 < w4.heap.size:=by omega)
   go_wp2_with fail
   refine bodyPost_ret ?_ rfl ⟨rfl,Bel.bel (B:=_) ?_⟩
   ·simp[results,results364,go_sem,a1S,a1P,a1N,a1O,a1Q,a1R]
   ·exact dM
 ·rw[af h0];replace h0:(chk a l !=0)=true:=by simpa using h0
  obtain⟨r,hr⟩:∃r,r=chk a l:=⟨_,rfl⟩;rw[<-hr]at hc h0 ⊢;clear hr;replace hc:=Xj hc;go_enter func364,ntmps364
  go_wp2_with fail
  refine(hc.out _).mono ?_;rintro e w1 ⟨rfl,ci⟩;obtain⟨cm,cq⟩:=aV ci;have ct:=bv ci;(try simp only[Xs,ae,Xw,Xu]at cm cq ct)
  go_wp2_with fail
  refine bodyPost_ret ?_ rfl ⟨rfl,Bel.bel (B:=_) ?_⟩
  ·simp[results,results364,go_sem,cm]
  ·exact dM
end
section
open Go.Proofs
theorem IY (b:Nat)(p q:Pfx)(w:World)(h0:w.cell? ⟨b,0,none⟩=some (.int .i64 p.at_))(h1:w.cell? ⟨b,1,none⟩=some (.int .i64 p.len)):
 Calls prog 375 #[.agg #[.int .i64 q.at_,.int .i64 q.len],.pointer (some ⟨b,0,none⟩)] w fun e w'=>e= .returned (.bool (p.meets q))/\cM w w':=by
 have hlt:=cW h0;have hm:=Ck p.at_ p.len q.at_ q.len;obtain⟨r,hr⟩:∃r,r=p.meets q:=⟨_,rfl⟩;unfold Pfx.meets at hr;rw[<-hr]at hm;unfold Pfx.meets;rw[<-hr];clear hr;replace hm:=Xj hm;go_enter func375,ntmps375
 go_wp2_with fail
 refine(hm.out _).mono ?_;rintro e w1 ⟨rfl,ci⟩;obtain⟨cm,cq⟩:=aV ci;have ct:=bv ci;(try simp only[Xs,ae,Xw,Xu]at cm cq ct)
 go_wp2_with fail
 go_ret
 refine⟨rfl,Bel.bel (B:=_) ?_⟩;exact dM
theorem IZ (b:Nat)(p:Pfx)(us:List Pfx)(w:World)(h0:w.cell? ⟨b,0,none⟩=some (.int .i64 p.at_))(h1:w.cell? ⟨b,1,none⟩=some (.int .i64 p.len)):
 P6 prog 375 #[.pointer (some ⟨b,0,none⟩)] Pfx.R (fun q=>p.meets q) us w:=by
 intro W hW x _ cs hR;unfold Pfx.R at hR;subst hR;exact IY b p x W (aU hW h0) (aU hW h1)
theorem mv {A:nC}(us:List Pfx)(uo:Option Addr)(ucap:Nat)(p:Pfx)(w:World)(h:Sl A w 2 Pfx.R uo ucap us):
 Calls prog 363 #[.slice uo us.length ucap,.agg #[.int .i64 p.at_,.int .i64 p.len]] w fun e w'=>e= .returned (.bool (us.any fun q=>p.meets q))/\cM w w':=by
 have hc:=fun W (hs:Sl A W 2 Pfx.R uo ucap us) h0 h1=>zf 375 #[.pointer (some ⟨w.heap.size,0,none⟩)] (enters_of func375 aJ rfl) (fun q=>p.meets q) us uo ucap W hs (IZ w.heap.size p us W h0 h1);obtain⟨r,hr⟩:∃r,r=us.any fun q=>p.meets q:=⟨_,rfl⟩;rw[<-hr]at hc ⊢;clear hr;replace hc:=Xj hc;go_enter func363,ntmps363
 go_wp2_with fail
 refine(hc.out _ (h.ext (az _ _)) ah ah).mono ?_;rintro e w1 ⟨rfl,nq⟩;go_wp2_with fail
 go_ret
 exact⟨rfl,al (az _ _) nq⟩
end
theorem a4E {p:Prop}(h:p:=by
 unfold dx at hN ⊢;rw[hM]at hN ⊢;simp only[YB,if_false,Xx,XX]at hN ⊢;exact Ct own l n₀ N us uo ucap J Jx hL p m pre W hM hs hj aa):p:=h
section
open Go.Proofs Go.Shelf
attribute [local go_sem] Oper.semAt_some
def dx (us:List Pfx):Nat->Pfx->List Pfx
 |0,p=>if us.any p.meets then []else [p]
 |n+1,p=>if us.any p.meets then (if us.contains p then []else dx us n p.low++dx us n p.high)else [p]
theorem kq {p:Pfx}(h:p.right=true)(hl:p.len < 16):p.low.right=true:=by
 obtain⟨g1,g2,g3,g4,g5⟩:=d5 h;refine qd (by simp[Pfx.low];omega) (by simp[Pfx.low];omega) g3 g4 ?_;show p.at_ % eX (p.len+1)=0;rw[tT g1 hl]at g5;exact ZQ (_d ⟨2,by omega⟩ (YJ g5))
theorem ji {p:Pfx}(h:p.right=true)(hl:p.len < 16):p.high.right=true:=by
 obtain⟨g1,g2,g3,g4,g5⟩:=d5 h;have hf:=Cl h;have hh:=tT g1 hl;have hs:=fH (n:=p.len+1) aa;refine qd (by simp[Pfx.high];omega) (by simp[Pfx.high];omega) (by simp[Pfx.high];omega) (by simp[Pfx.high];omega) ?_;show (p.at_+eX (p.len+1)) % eX (p.len+1)=0;rw[Int.add_emod_right];rw[hh]at g5;exact ZQ (_d ⟨2,by omega⟩ (YJ g5))
structure KP (own:World->Nat->Prop)(W W':World):Prop where
 size:W.heap.size<=W'.heap.size
 cells:∀b c t f,¬own W b->W.heap[b]? =some (.cells c t f)->W'.heap[b]? =some (.cells c t f)
 own:∀b,b < W.heap.size->own W' b->own W b
theorem qj {w:World}{b:Nat}{o:Obj}(h:w.heap[b]? =some o):b < w.heap.size:=a5P
theorem KP.trans {own:World->Nat->Prop}{a b c:World}(h:KP own a b)(k:KP own b c):KP own a c:=
 ⟨Yy h.size k.size,fun i x t f hn hc=>k.cells i x t f (fun ho=>hn (h.own i (qj hc) ho)) (h.cells i x t f hn hc),fun i hi ho=>h.own i hi (k.own i (Yx hi h.size) ho)⟩
theorem KP.of {own:World->Nat->Prop}{a b:World}(h:cM a b)(ho:∀i,own b i->own a i):KP own a b:=
 ⟨h.size,fun i x t f _ hc=>uH h hc,fun i _ hi=>ho i hi⟩
theorem KP.cell {own:World->Nat->Prop}{a b:World}(h:KP own a b){i o:Nat}{v:Value}(hn:¬own a i)(hc:a.cell? ⟨i,o,none⟩=some v):b.cell? ⟨i,o,none⟩=some v:=by
 have hlt:=cW hc;obtain⟨x,hx⟩:∃x,a.heap[i]? =some x:=⟨_,YQ hlt⟩;cases x with
 |cells c t f=>
  have:=h.cells i c t f hn hx;simp only[YU,hx,this]at hc ⊢;exact hc
 |_=>simp[YU,hx]at hc
theorem Sl.kp {α:Type}{own:World->Nat->Prop}{n₀:Nat}{w w':World}{k:Nat}{R:List Value->α->Prop}{ao:Option Addr}{cap:Nat}{l:List α}(h:Sl (fun b=>b < n₀) w k R ao cap l)(ho:∀b,own w b->n₀<=b)(hb:KP own w w'):Sl (fun b=>b < n₀) w' k R ao cap l:=by
 refine⟨h.cap_le,h.cap_max,fun i hi=>?_⟩;obtain⟨b,off,cs,h1,h2,h3,h4,h5⟩:=h.elem i hi;exact⟨b,off,cs,h1,h2,h3,h4,fun j hj=>hb.cell (fun hx=>by have:=ho b hx;omega) (h5 j hj)⟩
theorem DU {F:Fence}(hd:F.depth=none)(k:Nat):F.room k:=fun d h=>by rw[hd]at h;cases h
theorem RoundIn.anyDepth {F:Fence}(hd:F.depth=none){m m':Nat}{P:Program}{l:Nat}{f:FuncId}{tmps:Array Value}{assign body:Code}{w:World}{R:Ending->World->Prop}
 (h:RoundIn F m P l f tmps assign body w R):RoundIn F m' P l f tmps assign body w R:=⟨h.1,fun c cs _=>h.2 c cs (DU hd _)⟩
theorem YieldAt.anyDepth {F:Fence}(hd:F.depth=none){m:Nat}(m':Nat){P:Program}{l:Nat}{args:Array Value}{W:World}{R:Ending->World->Prop}(h:YieldAt F m P l args W R):YieldAt F m' P l args W R:=by
 obtain⟨fn,tmps,assign,body,hy,hR⟩:=h;exact⟨fn,tmps,assign,body,hy,RoundIn.anyDepth hd hR⟩
def KI (own:World->Nat->Prop)(J Jx:List Pfx->World->Prop)(pre L:List Pfx)(W:World)(e:Ending)(W':World):Prop:=
 (e= .returned (.bool true)/\J (pre++L) W'/\KP own W W')\/(e= .returned (.bool false)/\∃q,q <+:L/\Jx (pre++q) W')
structure LoopOK (own:World->Nat->Prop)(n₀ N l:Nat)(J Jx:List Pfx->World->Prop):Prop where
 ext:∀s A B,J s A->cM A B->J s B
 extx:∀s A B,Jx s A->cM A B->Jx s B
 own1:∀s A b,J s A->own A b->n₀<=b/\b < A.heap.size
 own2:∀s A B b,J s A->cM A B->own B b->own A b
 round:∀m pre (x:Pfx) W,J pre W->pre.length < N->YieldAt Fence.wide m prog l #[x.v] W fun e W'=>
  (e= .returned (.bool true)/\J (pre++[x]) W'/\KP own W W')\/(e= .returned (.bool false)/\Jx (pre++[x]) W')
theorem LoopOK.kp {own:World->Nat->Prop}{n₀ N l:Nat}{J Jx:List Pfx->World->Prop}(hL:LoopOK own n₀ N l J Jx){s:List Pfx}{A B:World}(hj:J s A)(hx:cM A B):KP own A B:=KP.of hx fun b=>hL.own2 s A B b hj hx
section
variable (own:World->Nat->Prop)(l n₀ N:Nat)(us:List Pfx)(uo:Option Addr)(ucap:Nat)(J Jx:List Pfx->World->Prop)(hL:LoopOK own n₀ N l J Jx)
include hL
theorem Ct (p:Pfx)(m:Nat)(pre:List Pfx)(W:World)(hM:us.any p.meets=false)(hs:Sl (fun b=>b < n₀) W 2 Pfx.R uo ucap us)(hj:J pre W)(hN:pre.length+1<=N):
 CallsIn Fence.wide m prog 333 #[p.v,.slice uo us.length ucap,.func (.yield l) #[] #[]] W (KI own J Jx pre [p] W):=by
 have hm:=fun W' (h:Sl (fun b=>b < n₀) W' 2 Pfx.R uo ucap us)=>mv us uo ucap p W' h;rw[hM]at hm;replace hm:=Xj hm;clear hM;unfold Pfx.v;refine callsIn_of_wp func333 rfl trivial ?_ rfl;simp only[ntmps333,YG,Xx,XX,XL,_e,ZL,ZM,Z9,ZT,Yb,X9];gi_wp2_with fail
 refine⟨trivial,fun h=>(by cases h),?_⟩;refine(callsIn_wide.2 (hm.out _ (hs.ext (az _ _)))).mono ?_;rintro e w1 ⟨rfl,ci⟩;obtain⟨cm,cq⟩:=aV ci;have ct:=bv ci;(try simp only[Xs,ae,Xw,Xu]at cm cq ct)
 have nq:=al (az _ _) ci;obtain⟨fn,tmps,assign,body,hy,hRr⟩:=hL.round (m - 1) pre p w1 (hL.ext _ _ _ hj nq) aa;unfold Pfx.v at hy;have j7:=hL.kp hj nq;gi_wp2_with fail
 refine⟨fun h=>(by cases h),?_⟩;refine hRr.mono ?_;rintro e w2 (⟨rfl,Oz,iO⟩|⟨rfl,j5⟩)
 ·gi_wp2_with fail
  go_ret
  exact .inl ⟨rfl,Oz,j7.trans iO⟩
 ·gi_wp2_with fail
  go_ret
  exact .inr ⟨rfl,[p],List.prefix_refl _,j5⟩
theorem T6:∀(n:Nat) (p:Pfx) (m:Nat) (pre:List Pfx) (W:World),16 - p.len=(n:Int)->p.right=true->Sl (fun b=>b < n₀) W 2 Pfx.R uo ucap us->J pre W->pre.length+(dx us n p).length<=N->
 CallsIn Fence.wide m prog 333 #[p.v,.slice uo us.length ucap,.func (.yield l) #[] #[]] W (KI own J Jx pre (dx us n p) W):=by
 intro n;induction n with
 |zero=>
  intro p m pre W hn hr hs hj hN;cases hM:us.any p.meets
  ·exact a4E
  ·unfold dx;rw[hM,aj rfl];have hm:=fun W' (h:Sl (fun b=>b < n₀) W' 2 Pfx.R uo ucap us)=>mv us uo ucap p W' h;rw[hM]at hm;have hh:=zk p.at_ p.len;have hc:chk p.at_ p.len=0:=by have:=hr;unfold Pfx.right bF at this;simpa using this
   have hl:p.len=16:=aa;have hv:qW p.at_ p.len= .tuple #[.agg #[.int .i64 0,.int .i64 0],.agg #[.int .i64 0,.int .i64 0],.int .i64 3]:=by unfold qW Cs;rw[aj hc,aj hl]
   rw[hv]at hh;clear hv hc hM hN hl hn hr;replace hm:=Xj hm;replace hh:=Xj hh;unfold Pfx.v;refine callsIn_of_wp func333 rfl trivial ?_ rfl;simp only[ntmps333,YG,Xx,XX,XL,_e,ZL,ZM,Z9,ZT,Yb,X9];gi_wp2_with fail
   refine⟨trivial,fun h=>(by cases h),?_⟩;refine(callsIn_wide.2 (hm.out _ (hs.ext (az _ _)))).mono ?_;rintro e w1 ⟨rfl,ci⟩;obtain⟨cm,cq⟩:=aV ci;have ct:=bv ci;(try simp only[Xs,ae,Xw,Xu]at cm cq ct)
   have nq:=al (az _ _) ci;have l1:W.heap.size < w1.heap.size:=aa;gi_wp2_with fail
   refine⟨trivial,fun h=>(by cases h),?_⟩;refine(callsIn_wide.2 (hh.out _)).mono ?_;rintro e w2 ⟨rfl,cj⟩;obtain⟨dB,dr⟩:=aV cj;have dC:=bv cj;(try simp only[Xs,ae,Xw,Xu]at dB dr dC)
   have l2:W.heap.size < w2.heap.size:=aa;gi_wp2_with fail
   refine⟨trivial,?_⟩;gi_wp2_with fail
   go_ret
   exact .inl ⟨rfl,by rw[Yi];exact hL.ext _ _ _ hj (al nq (al cj (al (az _ _) (az _ _)))),hL.kp hj (al nq (al cj (al (az _ _) (az _ _))))⟩
 |succ n ih=>
  intro p m pre W hn hr hs hj hN;cases hM:us.any p.meets
  ·exact a4E
  ·have hm:=fun W' (h:Sl (fun b=>b < n₀) W' 2 Pfx.R uo ucap us)=>mv us uo ucap p W' h;rw[hM]at hm;have hh:=zk p.at_ p.len;have hc:chk p.at_ p.len=0:=by have:=hr;unfold Pfx.right bF at this;simpa using this
   have hl:p.len < 16:=aa;have hv:qW p.at_ p.len= .tuple #[.agg #[.int .i64 p.at_,.int .i64 (p.len+1)],.agg #[.int .i64 (p.at_+eX (p.len+1)),.int .i64 (p.len+1)],.int .i64 0]:=by unfold qW;rw[aj hc,af aa]
   rw[hv]at hh;have wb:=fun W' (h:Sl (fun b=>b < n₀) W' 2 Pfx.R uo ucap us)=>IV p us uo ucap W' h;unfold dx at hN ⊢;rw[hM,aj rfl]at hN ⊢;clear hv hc hM;replace hm:=Xj hm;replace hh:=Xj hh;cases hC:us.contains p
   ·rw[hC]at wb hN;simp only[YB,if_false,Xv]at hN ⊢;replace wb:=Xj wb;have ihl:=fun m' pre' W'=>ih p.low m' pre' W' (by simp[Pfx.low];omega) (kq hr hl);have ihr:=fun m' pre' W'=>ih p.high m' pre' W' (by simp[Pfx.high];omega) (ji hr hl);obtain⟨L,hLL⟩:∃L,L=dx us n p.low:=⟨_,rfl⟩;obtain⟨M,hMM⟩:∃M,M=dx us n p.high:=⟨_,rfl⟩;rw[<-hLL]at ihl hN ⊢;rw[<-hMM]at ihr hN ⊢;simp only[Pfx.v,Pfx.low]at ihl;simp only[Pfx.v,Pfx.high]at ihr;replace ihl:=Xj ihl;replace ihr:=Xj ihr;clear ih hLL hMM hC hl hn hr;unfold Pfx.v;refine callsIn_of_wp func333 rfl trivial ?_ rfl;simp only[ntmps333,YG,Xx,XX,XL,_e,ZL,ZM,Z9,ZT,Yb,X9];gi_wp2_with fail
    refine⟨trivial,fun h=>(by cases h),?_⟩;refine(callsIn_wide.2 (hm.out _ (hs.ext (az _ _)))).mono ?_;rintro e w1 ⟨rfl,ci⟩;obtain⟨cm,cq⟩:=aV ci;have ct:=bv ci;(try simp only[Xs,ae,Xw,Xu]at cm cq ct)
    have nq:=al (az _ _) ci;have l1:W.heap.size < w1.heap.size:=aa;gi_wp2_with fail
    refine⟨trivial,fun h=>(by cases h),?_⟩;refine(callsIn_wide.2 (hh.out _)).mono ?_;rintro e w2 ⟨rfl,cj⟩;obtain⟨dB,dr⟩:=aV cj;have dC:=bv cj;(try simp only[Xs,ae,Xw,Xu]at dB dr dC)
    have j5:=al nq cj;have l2:W.heap.size < w2.heap.size:=aa;gi_wp2_with fail
    refine⟨trivial,fun h=>(by cases h),?_⟩;refine(callsIn_wide.2 (wb.out _ ((hs.ext j5).ext (al (az _ _) (az _ _))))).mono ?_;rintro e w3 ⟨rfl,rl⟩;obtain⟨Bw,HR⟩:=aV rl;have J0:=bv rl;(try simp only[Xs,ae,Xw,Xu]at Bw HR J0)
    have EN:=al j5 (al (al (az _ _) (az _ _)) rl);have hj3:=hL.ext _ _ _ hj EN;have hk3:=hL.kp hj EN;have l3:w2.heap.size < w3.heap.size:=aa;have l4:w2.heap.size+1 < w3.heap.size:=aa;have l5:W.heap.size < w3.heap.size:=aa;have d0:w3.cell? ⟨w2.heap.size,0,none⟩=some (.int .i64 p.at_):=by rw[Bw _ _ aa];go_simp
    have d1:w3.cell? ⟨w2.heap.size,1,none⟩=some (.int .i64 (p.len+1)):=by rw[Bw _ _ aa];go_simp
    have e0:w3.cell? ⟨w2.heap.size+1,0,none⟩=some (.int .i64 (p.at_+eX (p.len+1))):=by rw[Bw _ _ aa];go_simp
    have e1:w3.cell? ⟨w2.heap.size+1,1,none⟩=some (.int .i64 (p.len+1)):=by rw[Bw _ _ aa];go_simp
    have no:¬own w3 (w2.heap.size+1):=fun ho=>by
     have:=(hL.own1 _ _ _ hj (hL.own2 _ _ _ _ hj EN ho)).2;omega
    have hs3:=hs.ext EN;clear Bw HR dB dr cm cq;gi_wp2_with fail
    refine⟨trivial,fun h=>(by cases h),?_⟩;refine(ihl.out _ pre _ hs3 hj3 aa).mono ?_;rintro e w4 (⟨rfl,hj4,hk4⟩|⟨rfl,q,hq,SU⟩)
    ·have hs4:=hs3.kp (fun b hb=>(hL.own1 _ _ _ hj3 hb).1) hk4;have e0':=hk4.cell no e0;have e1':=hk4.cell no e1;clear e0 e1 d0 d1;gi_wp2_with fail
     refine⟨trivial,fun h=>(by cases h),?_⟩;refine(ihr.out _ _ _ hs4 hj4 aK).mono ?_;rintro e w5 (⟨rfl,hj5,hk5⟩|⟨rfl,q,hq,hx5⟩)
     ·gi_wp2_with fail
      go_ret
      exact .inl ⟨rfl,by rw[<-XV];exact hj5,hk3.trans (hk4.trans hk5)⟩
     ·gi_wp2_with fail
      go_ret
      obtain⟨r,hr⟩:=hq;exact .inr ⟨rfl,L++q,⟨r,by rw[<-hr];simp⟩,by rw[<-XV];exact hx5⟩
    ·gi_wp2_with fail
     refine⟨trivial,?_⟩;gi_wp2_with fail
     go_ret
     exact .inr ⟨rfl,q,hq.trans (List.prefix_append _ _),SU⟩
   ·rw[hC]at wb;rw[aj rfl];replace wb:=Xj wb;clear ih hC hl hn hr hN;unfold Pfx.v;refine callsIn_of_wp func333 rfl trivial ?_ rfl;simp only[ntmps333,YG,Xx,XX,XL,_e,ZL,ZM,Z9,ZT,Yb,X9];gi_wp2_with fail
    refine⟨trivial,fun h=>(by cases h),?_⟩;refine(callsIn_wide.2 (hm.out _ (hs.ext (az _ _)))).mono ?_;rintro e w1 ⟨rfl,ci⟩;obtain⟨cm,cq⟩:=aV ci;have ct:=bv ci;(try simp only[Xs,ae,Xw,Xu]at cm cq ct)
    have nq:=al (az _ _) ci;have l1:W.heap.size < w1.heap.size:=aa;gi_wp2_with fail
    refine⟨trivial,fun h=>(by cases h),?_⟩;refine(callsIn_wide.2 (hh.out _)).mono ?_;rintro e w2 ⟨rfl,cj⟩;obtain⟨dB,dr⟩:=aV cj;have dC:=bv cj;(try simp only[Xs,ae,Xw,Xu]at dB dr dC)
    have j5:=al nq cj;have l2:W.heap.size < w2.heap.size:=aa;gi_wp2_with fail
    refine⟨trivial,fun h=>(by cases h),?_⟩;refine(callsIn_wide.2 (wb.out _ ((hs.ext j5).ext (al (az _ _) (az _ _))))).mono ?_;rintro e w3 ⟨rfl,rl⟩;obtain⟨Bw,HR⟩:=aV rl;have J0:=bv rl;(try simp only[Xs,ae,Xw,Xu]at Bw HR J0)
    have EN:=al j5 (al (al (az _ _) (az _ _)) rl);gi_wp2_with fail
    go_ret
    exact .inl ⟨rfl,by simpa using hL.ext _ _ _ hj EN,hL.kp hj EN⟩
end
end
section
open Go.Proofs Go.Shelf
attribute [local go_sem] Oper.semAt_some
theorem P8 (p:Pfx)(uo:Option Addr)(k ucap:Nat)(w:World):
 Calls prog 280 #[p.v,.slice uo k ucap] w fun e w'=>e= .returned (.func (.func 332) #[] #[.pointer (some ⟨w.heap.size,0,none⟩),.pointer (some ⟨w.heap.size+1,0,none⟩)])/\
  w'=(w.alloc (.cells #[.int .i64 p.at_,.int .i64 p.len] 23)).alloc (.cells #[.slice uo k ucap] 147):=by
 unfold Pfx.v;go_enter func280,ntmps280
 go_wp2_with fail
 go_ret
 exact⟨rfl,rfl⟩
theorem zl {β:Type}{B:Nat}{J:β->World->Prop}(h:AbidesFrom B J):∀s X Y,J s X->cM X Y->J s Y:=fun s X Y hj hx=>
 h s X Y none hj ⟨hx.os,hx.tape,hx.output,hx.size,fun b hb _=>hx.block b hb⟩ (fun r e=>by cases e)
def KG (own:World->Nat->Prop)(G:World->Prop)(W W':World):Prop:=G W->KP own W W'/\G W'
theorem P9 (own:World->Nat->Prop)(G:World->Prop)(l n₀ b1 b2:Nat)(us:List Pfx)(uo:Option Addr)(ucap:Nat)(p:Pfx)(n:Nat)(hn:16 - p.len=(n:Int))(hr:p.right=true)(J Jx:List Pfx->World->Prop)
 (m:Nat) (hL:LoopOK own n₀ (dx us n p).length l J Jx) (W:World) (c0:W.cell? ⟨b1,0,none⟩=some (.int .i64 p.at_)) (c1:W.cell? ⟨b1,1,none⟩=some (.int .i64 p.len)) (c2:W.cell? ⟨b2,0,none⟩=some (.slice uo us.length ucap))
 (hs:Sl (fun b=>b < n₀) W 2 Pfx.R uo ucap us) (h0:J [] W):
 CallsIn Fence.wide m prog 332 #[.func (.yield l) #[] #[],.pointer (some ⟨b1,0,none⟩),.pointer (some ⟨b2,0,none⟩)] W fun e W'=>(∃v,e= .returned v)/\
  ((∃ys,ys=dx us n p/\J ys W')\/(∃pre,pre <+:dx us n p/\Jx pre W')):=by
 have hd:=T6 own l n₀ (dx us n p).length us uo ucap J Jx hL n p (m - 1) [] W hn hr hs h0 ah;simp only[Pfx.v]at hd;replace hd:=Xj hd;clear hL hn hr;refine callsIn_of_wp func332 rfl trivial ?_ rfl;simp only[ntmps332,YG,Xx,XX,XL,_e,ZL,ZM,Z9,ZT,Yb,X9];gi_wp2_with fail
 refine⟨trivial,fun h=>(by cases h),?_⟩;refine hd.out.mono ?_;rintro e w1 (⟨rfl,hj,hk⟩|⟨rfl,q,hq,hx⟩)
 ·gi_wp2_with fail
  go_end0
  exact⟨⟨_,rfl⟩,.inl ⟨_,rfl,by simpa using hj⟩⟩
 ·gi_wp2_with fail
  go_end0
  exact⟨⟨_,rfl⟩,.inr ⟨q,hq,by simpa using hx⟩⟩
theorem I0 (own:World->Nat->Prop)(G:World->Prop)(m n₀ b1 b2:Nat)(us:List Pfx)(uo:Option Addr)(ucap:Nat)(p:Pfx)(n:Nat)(hn:16 - p.len=(n:Int))(hr:p.right=true)(w:World)
 (hG0:G w) (hG1:∀A b,G A->own A b->n₀<=b/\b < A.heap.size) (hG2:∀A B b,G A->cM A B->own B b->own A b) (hG3:∀A B,G A->cM A B->G B)
 (c0:w.cell? ⟨b1,0,none⟩=some (.int .i64 p.at_)) (c1:w.cell? ⟨b1,1,none⟩=some (.int .i64 p.len)) (c2:w.cell? ⟨b2,0,none⟩=some (.slice uo us.length ucap))
 (hs:Sl (fun b=>b < n₀) w 2 Pfx.R uo ucap us):
 SeqStopsK Fence.wide m prog 332 #[.pointer (some ⟨b1,0,none⟩),.pointer (some ⟨b2,0,none⟩)] (fun x:Pfx=>#[x.v]) (KG own G) (fun ys=>ys=dx us n p) (fun pre=>pre <+:dx us n p) (dx us n p).length w:=by
 intro l J Jx W hW hJ hJx hY h0;have hL:LoopOK own n₀ (dx us n p).length l (fun s A=>J s A/\G A) Jx:=by
  refine⟨fun s A B h hx=>⟨zl hJ s A B h.1 hx,hG3 A B h.2 hx⟩,fun s A B h hx=>zl hJx s A B h hx,fun s A b h ho=>hG1 A b h.2 ho,fun s A B b h hx ho=>hG2 A B b h.2 hx ho,fun m' pre x W1 h hl=>?_⟩;refine YieldAt.mono (YieldAt.anyDepth rfl m' (hY pre x W1 h.1 hl)) fun e W2 h2=>?_;rcases h2 with⟨he,hj,hk⟩|h2
  ·exact .inl ⟨he,⟨hj,(hk h.2).2⟩,(hk h.2).1⟩
  ·exact .inr h2
 refine(P9 own G l n₀ b1 b2 us uo ucap p n hn hr (fun s A=>J s A/\G A) Jx m hL W (aU hW c0) (aU hW c1) (aU hW c2) (hs.ext hW) ⟨h0,hG3 _ _ hG0 hW⟩).mono ?_;rintro e W' ⟨hv,⟨ys,hy,hj⟩|h⟩
 ·exact⟨hv,.inl ⟨ys,hy,hj.1⟩⟩
 ·exact⟨hv,.inr h⟩
end
section
open Go.Proofs
def jP (root:Pfx):Int->List Pfx->Bool
 |_,[]=>true
 |free,p::ps=>dZ p root&&(decide (free<=p.at_)&&jP root (p.at_+eX p.len) ps)
theorem wI (root:Pfx)(f:Int)(p:Pfx)(ps:List Pfx):jP root f (p::ps)=(dZ p root&&(decide (f<=p.at_)&&jP root (p.at_+eX p.len) ps)):=rfl
def iW (root:Pfx)(us:List Pfx):Int:=if us.length>32 then 2 else if chk root.at_ root.len=0 then (if jP root root.at_ us then 0 else 1)else 1
theorem I1 {a l b m:Int}(h:qc a l b m=true):bF a l=true:=by
 unfold qc at h;simp at h;exact h.1.1.1
theorem jQ {A:nC}(root:Pfx)(us:List Pfx)(uo:Option Addr)(ucap:Nat)(w:World)(h:Sl A w 2 Pfx.R uo ucap us):
 Calls prog 115 #[.agg #[.int .i64 root.at_,.int .i64 root.len,.slice uo us.length ucap]] w fun e w'=>e= .returned (.int .i64 (iW root us))/\cM w w':=by
 have gU:=h.cap_le;have JS:=h.cap_max;by_cases eG:us.length>32
 ·have hr:iW root us=2:=by unfold iW;rw[aj eG]
  rw[hr];have hI:(32:Int) < (us.length:Int):=aa;clear hr eG;go_enter func115,ntmps115
  go_wp2_with fail
  go_ret
  refine⟨rfl,Bel.bel (B:=_) ?_⟩;exact dM
 ·have hI:(us.length:Int)<=32:=aa;have bp:=qT root.at_ root.len;by_cases hc:chk root.at_ root.len=0
  ·obtain⟨r,hr⟩:∃r,r=iW root us:=⟨_,rfl⟩;rw[<-hr];have lD:r=if jP root root.at_ us then 0 else 1:=by rw[hr];unfold iW;rw[af eG,aj hc]
   rw[hc]at bp;clear hr hc eG;replace hr:=Xj lD;clear lD;replace bp:=Xj bp;go_enter func115,ntmps115
   go_wp2_with fail
   refine(bp.out _).mono ?_;rintro e w1 ⟨rfl,ci⟩;obtain⟨cm,cq⟩:=aV ci;have ct:=bv ci;(try simp only[Xs,ae,Xw,Xu]at cm cq ct)
   have l1:w.heap.size < w1.heap.size:=aa;go_wp2_with fail
   go_loopw [3,20] (fun s3 s20 wr=>∃(k:Nat) (f:Int),k<=us.length/\s20= .int .i64 k/\s3= .int .i64 f/\Hid (jP root root.at_ us=jP root f (us.drop k))/\cM w1 wr) (fun _ s20 _=>us.length - (intOf s20).toNat)
   case atStart=>exact⟨0,root.at_,XD _,rfl,rfl,Xj rfl,Below.refl _ _⟩
   case round=>
    obtain⟨k,f,hk,rfl,rfl,hu,hx⟩:=hrel;have d4:Bel w.heap.size w wr:=(((Bel.refl w).alloc _).call ci).call hx;obtain⟨hcr,sU⟩:=aV hx;have hzr:=bv hx;have lr:w.heap.size < wr.heap.size:=aa;by_cases hlt:k < us.length
    ·have ed:(k:Int) < (us.length:Int):=aa;have HS:us.drop k=us[k]::us.drop (k+1):=YR hlt;rw[HS]at hu;clear HS;obtain⟨b,off,cs,rfl,-,bB,hR,eV⟩:=h.elem k hlt;replace eV:=fh (al (al (az _ _) ci) hx) eV;unfold Pfx.R at hR;subst hR;obtain⟨k0,k1⟩:=ko eV;have lb:=cW k0;obtain⟨p,hp⟩:∃p,p=us[k]:=⟨_,rfl⟩;rw[<-hp]at k0 k1 hu;clear eV hp h;have d9:=mf p.at_ p.len root.at_ root.len;obtain⟨q,hq⟩:∃q,q=qc p.at_ p.len root.at_ root.len:=⟨_,rfl⟩;rw[<-hq]at d9;have AQ:jP root root.at_ us=(q&&(decide (f<=p.at_)&&jP root (p.at_+eX p.len) (us.drop (k+1)))):=by rw[hu.out,wI,hq];rfl
     clear hu;cases q
     case false=>
      have gL:r=1:=by rw[hr.out,AQ];rfl
      replace gL:=Xj gL;clear AQ hr hq;replace d9:=Xj d9;go_wp2_with fail
      refine(d9.out _).mono ?_;rintro e w2 ⟨rfl,cj⟩;obtain⟨dB,dr⟩:=aV cj;have dC:=bv cj;(try simp only[Xs,ae,Xw,Xu]at dB dr dC)
      go_wp2_with fail
      go_ret
      refine⟨b9 gL.out.symm,Bel.bel (B:=_) ?_⟩;exact dM
     case true=>
      have JX:=I1 hq.symm;obtain⟨g1,g2,g3,g4,-⟩:=d5 JX;obtain⟨z1,z2⟩:=fH g1;have cL:=F5 p.at_ p.len;rw[wH JX]at cL;have db:IntKind.i64.wrap (p.at_+eX p.len)=p.at_+eX p.len:=IntWalk.i64_in _ aa;replace d9:=Xj d9;replace cL:=Xj cL;clear hq JX;by_cases hf:f<=p.at_
      ·have Sn:jP root root.at_ us=jP root (p.at_+eX p.len) (us.drop (k+1)):=by rw[AQ];simp[hf]
       clear AQ;replace Sn:=Xj Sn;go_wp2_with fail
       refine(d9.out _).mono ?_;rintro e w2 ⟨rfl,cj⟩;obtain⟨dB,dr⟩:=aV cj;have dC:=bv cj;(try simp only[Xs,ae,Xw,Xu]at dB dr dC)
       have l2:w.heap.size < w2.heap.size:=aa;have l3:wr.heap.size < w2.heap.size:=aa;go_wp2_with fail
       refine sr aJ aJ (fun _ _ d _ _ h=>by cases d<;>exact h) ?_;repeat(first|((first|refine fu rfl rfl rfl cG ?_|refine fw rfl rfl rfl cG ?_|refine fy rfl rfl rfl cG ?_);simp only[Act.put,XO,XQ,XZ])|(apply iU;(first|exact dG rfl|exact ei rfl rfl rfl cG);intro wq iP R hR;((have mX:=(aV iP).1;(try simp only[Xs,ae,Xw,Xu]at mX));go_simp;first|exact hR|((go_at_call 203;exact qb (cL.out _) hR)));simp only[Act.put,XO,XQ,XZ]))
       refine dY ?_;intro w3 rl;obtain⟨Bw,HR⟩:=aV rl;have J0:=bv rl;(try simp only[Xs,ae,Xw,Xu]at Bw HR J0)
       go_wp2_with fail
       go_roundw
       case rel=>exact⟨k+1,_,by omega,by go_num,rfl,Sn,al hx (al (al (az _ _) cj) rl)⟩
       case measure=>simp[intOf];omega
      ·have gL:r=1:=by rw[hr.out,AQ];simp[hf]
       replace gL:=Xj gL;have hf':p.at_ < f:=aa;clear AQ hr hf;go_wp2_with fail
       refine(d9.out _).mono ?_;rintro e w2 ⟨rfl,cj⟩;obtain⟨dB,dr⟩:=aV cj;have dC:=bv cj;(try simp only[Xs,ae,Xw,Xu]at dB dr dC)
       have l2:w.heap.size < w2.heap.size:=aa;have l3:wr.heap.size < w2.heap.size:=aa;go_wp2_with fail
       go_ret
       refine⟨b9 gL.out.symm,Bel.bel (B:=_) ?_⟩;exact dM
    ·have ed:¬(k:Int) < (us.length:Int):=aa;obtain rfl:k=us.length:=aa;have gL:r=0:=by rw[hr.out,hu.out,Zc];rfl
     replace gL:=Xj gL;clear hr hu;go_wp2_with fail
     go_ret
     exact⟨b9 gL.out.symm,d4.bel⟩
  ·have hr:iW root us=1:=by unfold iW;rw[af eG,af hc]
   rw[hr];obtain⟨c,mX⟩:∃c,c=chk root.at_ root.len:=⟨_,rfl⟩;rw[<-mX]at bp;have bH:(c !=0)=true:=by rw[mX];simpa using hc
   clear hr eG hc mX;replace bp:=Xj bp;go_enter func115,ntmps115
   go_wp2_with fail
   refine(bp.out _).mono ?_;rintro e w1 ⟨rfl,ci⟩;obtain⟨cm,cq⟩:=aV ci;have ct:=bv ci;(try simp only[Xs,ae,Xw,Xu]at cm cq ct)
   go_wp2_with fail
   go_ret
   refine⟨rfl,Bel.bel (B:=_) ?_⟩;exact dM
end
theorem a6i {p:Prop}(h:p:=by
 simp[results,results238,go_sem,cm]):p:=h
section
open Go.Proofs Go.Shelf
attribute [local go_sem] Oper.semAt_some
def jR (root:Pfx)(us:List Pfx):List Pfx:=dx us (16 - root.len).toNat root
@[go_sem] def Pfx.zero:Pfx:=⟨0,0⟩
def mT (root:Pfx)(us:List Pfx)(size:Int):Pfx × Bool × Int:=
 if iW root us=0 then
  (if size < root.len\/16 < size then (Pfx.zero,false,3)else match (jR root us).find? (fun q=>decide (q.len<=size))with|some q=>(⟨q.at_,size⟩,true,0)|none=>(Pfx.zero,false,0))
 else (Pfx.zero,false,iW root us)
def rt (W:World)(b:Nat)(cs:Array Value)(t:TypeId):Prop:=W.heap[b]? =some (.cells cs t (0,0))
theorem fi {A B:World}{row:Option Nat}{b:Nat}{cs:Array Value}{t:TypeId}(h:rt A b cs t)(hg:A.grownBy B row)(hr:∀r,row=some r->∃o:Obj,A.heap[r]? =some o/\o.isCells=false):rt B b cs t:=
 (hg.block b (qj h) (fun e=>by obtain⟨o,ho,hc⟩:=hr b e.symm;rw[show A.heap[b]? =_ from h]at ho;cases ho;cases hc)).trans h
theorem lN {A B:World}{b:Nat}{cs:Array Value}{t:TypeId}(h:rt A b cs t)(hx:cM A B):rt B b cs t:=uH hx h
theorem dy {W:World}{b o:Nat}{cs:Array Value}{t:TypeId}{v:Value}(h:rt W b cs t)(hv:cs[o]? =some v):W.cell? ⟨b,o,none⟩=some v:=aw h hv
theorem om {W:World}{b o:Nat}{cs:Array Value}{t:TypeId}(h:rt W b cs t):W.frozen? ⟨b,o,none⟩=false:=fm h
theorem ng {W:World}{b o:Nat}{cs:Array Value}{t:TypeId}(h:rt W b cs t)(v:Value):rt (W.setCell ⟨b,o,none⟩ v) b (cs.setIfInBounds o v) t:=iR h v
theorem dA {W:World}{b c o:Nat}{cs:Array Value}{t:TypeId}(h:rt W b cs t)(bH:c≠b)(v:Value):rt (W.setCell ⟨c,o,none⟩ v) b cs t:=(df v bH).trans h
theorem Sl.inW {α:Type}{A:nC}{w:World}{k:Nat}{R:List Value->α->Prop}{ao:Option Addr}{cap:Nat}{l:List α}(h:Sl A w (k+1) R ao cap l):Sl (fun b=>b < w.heap.size) w (k+1) R ao cap l:=by
 refine⟨h.cap_le,h.cap_max,fun i hi=>?_⟩;obtain⟨b,off,cs,h1,h2,h3,h4,h5⟩:=h.elem i hi;exact⟨b,off,cs,h1,cW (h5 0 aa),h3,h4,h5⟩
theorem a2s {own:World->Nat->Prop}{G:World->Prop}{A B C:World}(h:KG own G A B)(k:KG own G B C):KG own G A C:=fun g=>⟨(h g).1.trans (k (h g).2).1,(k (h g).2).2⟩
abbrev Qa:World->Nat->Prop:=fun _ _=>False
abbrev noG:World->Prop:=fun _=>True
theorem VG {W W':World}(h:cM W W'):KG Qa noG W W':=fun _=>⟨KP.of h fun _ h=>h,trivial⟩
theorem M7 {w:World}(W:World)(l:Nat)(o o':Obj)(_:w.heap.size<=l)(h:W.heap[l]? =some o)(hc:o.isCells=false)(_:o.isWalk=false):KG Qa noG W (W.putObj l o'):=fun _=>
 ⟨⟨(grownBy_putObj' W l o').size,fun b c t f _ hb=>((grownBy_putObj' W l o').block b (qj hb) (fun e=>by cases e;rw[h]at hb;cases hb;cases hc)).trans hb,fun b _ ho=>ho⟩,trivial⟩
def a1f (w w1:World)(size:Int)(pre:List Pfx)(W:World):Prop:=
 ((∀y∈pre,decide (y.len<=size)=false)/\rt W (w.heap.size+1) #[.int .i64 size] 3/\rt W (w.heap.size+2) #[.int .i64 0,.int .i64 0] 23/\rt W (w.heap.size+3) #[.bool false] 4/\rt W (w.heap.size+4) #[.int .i64 0] 37/\w1.heap.size<=W.heap.size)/\Below w.heap.size w W
def a1g (w:World)(size:Int)(c:Code)(pre:List Pfx)(W:World):Prop:=
 (c= .ret/\∃q x,pre=q++[x]/\decide (x.len<=size)=true/\(∀y∈q,decide (y.len<=size)=false)/\rt W (w.heap.size+2) #[.int .i64 x.at_,.int .i64 size] 23/\rt W (w.heap.size+3) #[.bool true] 4/\rt W (w.heap.size+4) #[.int .i64 0] 37)/\Below w.heap.size w W
theorem Gp (w w1:World)(size:Int)(B:Nat)(hB:w.heap.size<=B):OwnFrom B (a1f w w1 size):=by
 intro s X Y row h hg hr;obtain⟨⟨h1,h2,h3,h4,h5,h6⟩,h7⟩:=h;have hr':∀r,row=some r->∃o:Obj,X.heap[r]? =some o/\o.isCells=false:=fun r e=>(hr r e).2;exact⟨⟨h1,fi h2 hg hr',fi h3 hg hr',fi h4 hg hr',fi h5 hg hr',Yy h6 hg.size⟩,h7.grown hg h7.size (fun k e=>Yy hB (hr k e).1)⟩
theorem Qb (w:World)(size:Int)(c:Code)(B:Nat)(hB:w.heap.size<=B):OwnFrom B (a1g w size c):=by
 intro s X Y row h hg hr;obtain⟨⟨h1,q,x,h2,h3,h4,h5,h6,h7⟩,h8⟩:=h;have hr':∀r,row=some r->∃o:Obj,X.heap[r]? =some o/\o.isCells=false:=fun r e=>(hr r e).2;exact⟨⟨h1,q,x,h2,h3,h4,fi h5 hg hr',fi h6 hg hr',fi h7 hg hr'⟩,h8.grown hg h8.size (fun k e=>Yy hB (hr k e).1)⟩
def Qc (w w1:World)(root:Pfx)(uo:Option Addr)(n ucap:Nat)(size:Int)(x:Pfx)(Bx:Nat):Act:=
 {tmps:=#[.agg #[.int .i64 root.at_,.int .i64 root.len,.slice uo n ucap],.int .i64 size,.pointer (some ⟨w.heap.size,0,none⟩),.pointer (some ⟨w.heap.size+1,0,none⟩),.pointer (some ⟨w.heap.size+1+1,0,none⟩),.pointer (some ⟨w.heap.size+1+1+1,0,none⟩),.pointer (some ⟨w.heap.size+1+1+1+1,0,none⟩),.int .i64 0,.pointer (some ⟨Bx,0,none⟩),
  .agg #[.int .i64 root.at_,.int .i64 root.len,.slice uo n ucap],.int .i64 0,.int .i64 0,.bool false,undef,undef,.int .i64 size,.pointer (some ⟨w.heap.size,0,none⟩),.pointer (some ⟨w.heap.size,1,none⟩),.int .i64 root.len,.bool false,.bool false,.int .i64 size,.bool false,.bool false,undef,.pointer (some ⟨w.heap.size,0,none⟩),.agg #[.int .i64 root.at_,.int .i64 root.len],.pointer (some ⟨w.heap.size,2,none⟩),.slice uo n ucap,
  .func (.func 332) #[] #[.pointer (some ⟨w1.heap.size,0,none⟩),.pointer (some ⟨w1.heap.size+1,0,none⟩)],.agg #[.int .i64 x.at_,.int .i64 x.len],undef,undef,undef,undef,undef,undef,undef,undef,undef],defers:=[]}
def a1h (w w1:World)(root:Pfx)(uo:Option Addr)(n ucap:Nat)(size:Int)(x:Pfx)(a':Act)(W:World):Prop:=
 ∃Bx,w1.heap.size<=Bx/\rt W Bx #[.int .i64 x.at_,.int .i64 x.len] 23/\a'=Qc w w1 root uo n ucap size x Bx
theorem Qd {A:nC}(root:Pfx)(us:List Pfx)(uo:Option Addr)(ucap:Nat)(size:Int)(w:World)(h:Sl A w 2 Pfx.R uo ucap us)(Ex:iW root us=0)(h1:root.len<=size)(h2:size<=16):
 Calls prog 238 #[.agg #[.int .i64 root.at_,.int .i64 root.len,.slice uo us.length ucap],.int .i64 size] w fun e w'=>
  e= .returned (.tuple #[(mT root us size).1.v,.bool (mT root us size).2.1,.int .i64 (mT root us size).2.2])/\cM w w':=by
 have bp:=fun W (h:Sl A W 2 Pfx.R uo ucap us)=>jQ root us uo ucap W h;rw[Ex]at bp;replace bp:=Xj bp;have hwk:=fun W=>P8 root uo us.length ucap W;unfold Pfx.v at hwk;replace hwk:=Xj hwk;refine(callsIn_wide (n:=3)).1 ?_;refine callsIn_of_wp_marks func238 rfl trivial ?_ rfl;simp only[ntmps238,YG,Xx,XX,XL,_e,ZL,ZM,Z9,ZT,Yb,X9];gi_wp2_with fail
 refine⟨trivial,?_⟩;refine(callsIn_wide.2 (bp.out _ (h.ext (al (az _ _) (al (az _ _) (al (az _ _) (al (az _ _) (az _ _)))))))).mono ?_;rintro e w1 ⟨rfl,ci⟩;obtain⟨cm,cq⟩:=aV ci;have ct:=bv ci;(try simp only[Xs,ae,Xw,Xu]at cm cq ct)
 have l1:w.heap.size < w1.heap.size:=aa;have l2:w.heap.size+1 < w1.heap.size:=aa;gi_wp2_with fail
 refine⟨trivial,?_⟩;refine(callsIn_wide.2 (hwk.out _)).mono ?_;rintro e w2 ⟨rfl,rfl⟩;have b0:rt w1 w.heap.size #[.int .i64 root.at_,.int .i64 root.len,.slice uo us.length ucap] 149:=lN (bP (bP (bP (bP (l6 _ ah))))) ci;have b1:rt w1 (w.heap.size+1) #[.int .i64 size] 3:=lN (bP (bP (bP (l6 _ ah)))) ci;have b2:rt w1 (w.heap.size+2) #[.int .i64 0,.int .i64 0] 23:=lN (bP (bP (l6 _ ah))) ci;have b3:rt w1 (w.heap.size+3) #[.bool false] 4:=lN (bP (l6 _ ah)) ci;have b4:rt w1 (w.heap.size+4) #[.int .i64 0] 37:=lN (l6 _ ah) ci;have j0:decide (size < root.len)=false:=aK;have lh:decide (16 < size)=false:=aK;gi_wp2_with fail
 have j5:cM w1 ((w1.alloc (.cells #[.int .i64 root.at_,.int .i64 root.len] 23)).alloc (.cells #[.slice uo us.length ucap] 147)):=al (az _ _) (az _ _);have Aw:cM w w1:=al (al (az _ _) (al (az _ _) (al (az _ _) (al (az _ _) (az _ _))))) ci;have bB:16 - root.len=(((16 - root.len).toNat:Nat):Int):=aa;have LF:root.right=true:=by
  unfold iW at Ex;split at Ex<;>(try split at Ex)<;>simp_all[Pfx.right,bF]
 refine wpIn_rangeFunc_ownH rfl aa (gf:=332) (lb:=#[.pointer (some ⟨w1.heap.size,0,none⟩),.pointer (some ⟨w1.heap.size+1,0,none⟩)]) rfl trivial (enters_of func332 aJ rfl)
  (I0 Qa noG 2 w1.heap.size w1.heap.size (w1.heap.size+1) us uo ucap root _ bB LF _ trivial (fun _ _ _ h=>h.elim) (fun _ _ _ _ _ h=>h) (fun _ _ _ _=>trivial) ah ah ah ((((h.ext Aw).inW).ext j5))) a2s (M7 (w:=((w1.alloc (.cells #[.int .i64 root.at_,.int .i64 root.len] 23)).alloc (.cells #[.slice uo us.length ucap] 147)))) (Below.refl _ _) (fun _=>rfl)
  (a1f w w1 size) (a1g w size) (Gp w w1 size _ aK) (fun c=>Qb w size c _ aK)
  ⟨⟨by simp,lN b1 j5,lN b2 j5,lN b3 j5,lN b4 j5,j5.size⟩,(al Aw j5).mono (Xz _)⟩
  (a1h w w1 root uo us.length ucap size) (fun x a'=>by
   intro s X Y row h hg hr;obtain⟨Bx,h1,h2,h3⟩:=h;exact⟨Bx,h1,fi h2 hg (fun r e=>(hr r e).2),h3⟩) ?assign ?body ?done ?stop
 case assign=>
  intro l pre x W K hi hK;have hi':=hi;obtain⟨⟨-,-,-,-,-,cL⟩,hB⟩:=hi';unfold Pfx.v;gi_wp2
  refine hK _ _ ((KeepsOthers.alloc _ _).from _) (VG (az _ _)) (Gp w w1 size w.heap.size (Xz _) _ _ _ none hi (World.grownBy_alloc _ _ _) (fun r e=>by cases e)) ⟨W.heap.size,cL,aZ _ _,rfl⟩
 case body=>
  rintro l pre x a' W hl ⟨r,hr⟩ hi ⟨Bx,hBx,bX,rfl⟩ hlt;obtain⟨⟨hp,c1,c2,c3,c4,cL⟩,hB⟩:=hi;have x0:=dy (o:=0) bX rfl;have x1:=dy (o:=1) bX rfl;have s0:=dy (o:=0) c1 rfl;have p0:=dy (o:=0) c2 rfl;have p1:=dy (o:=1) c2 rfl;have q0:=dy (o:=0) c3 rfl;have r0:=dy (o:=0) c4 rfl;have f2:∀o,W.frozen? ⟨w.heap.size+2,o,none⟩=false:=fun o=>om c2;have f3:∀o,W.frozen? ⟨w.heap.size+3,o,none⟩=false:=fun o=>om c3;have f4:∀o,W.frozen? ⟨w.heap.size+4,o,none⟩=false:=fun o=>om c4;unfold Qc;cases hx:decide (x.len<=size)
  ·have Hx:=Xj hx;gi_wp2
   exact⟨(KeepsOthers.refl _).from _,VG (Below.refl _ _),⟨⟨fun y hy=>(X0.1 hy).elim (hp y) (fun e=>by simp at e;rw[e];exact Hx.out),c1,c2,c3,c4,cL⟩,hB⟩⟩
  ·have Hx:=Xj hx;gi_wp2
   refine⟨((((KeepsOthers.setCell _ _ _).trans (KeepsOthers.setCell _ _ _)).trans (KeepsOthers.setCell _ _ _)).trans (KeepsOthers.setCell _ _ _)).from _,⟨⟨rfl,pre,x,rfl,Hx.out,hp,?_,?_,?_⟩,?_⟩⟩
   ·exact dA (dA (ng (ng c2 _) _) aa _) aa _
   ·exact dA (ng (dA (dA c3 aa _) aa _) _) aa _
   ·exact ng (dA (dA (dA c4 aa _) aa _) aa _) _
   ·exact(((hB.setCell (p:=⟨w.heap.size+2,0,none⟩) ah _).setCell (p:=⟨w.heap.size+2,1,none⟩) ah _).setCell (p:=⟨w.heap.size+3,0,none⟩) ah _).setCell (p:=⟨w.heap.size+4,0,none⟩) ah _
 case done=>
  rintro D ys W hD rfl ⟨⟨bH,c1,c2,c3,c4,cL⟩,hB⟩ hK;have p0:=dy (o:=0) c2 rfl;have p1:=dy (o:=1) c2 rfl;have q0:=dy (o:=0) c3 rfl;have r0:=dy (o:=0) c4 rfl;have f2:∀o,W.frozen? ⟨w.heap.size+2,o,none⟩=false:=fun o=>om c2;have f3:∀o,W.frozen? ⟨w.heap.size+3,o,none⟩=false:=fun o=>om c3;have f4:∀o,W.frozen? ⟨w.heap.size+4,o,none⟩=false:=fun o=>om c4;have qC:mT root us size=(Pfx.zero,false,0):=by
   unfold mT;rw[aj Ex,af aa];have:(jR root us).find? (fun q=>decide (q.len<=size))=none:=by
    rw[Yr];intro q hq;rw[bH q hq];simp
   rw[this]
  replace qC:=Xj qC;replace bH:=Xj bH;have hK':=((((KeepsOthers.setCell W ⟨w.heap.size+2,0,none⟩ (.int .i64 0)).trans (KeepsOthers.setCell _ ⟨w.heap.size+2,1,none⟩ (.int .i64 0))).trans (KeepsOthers.setCell _ ⟨w.heap.size+3,0,none⟩ (.bool false))).trans (KeepsOthers.setCell _ ⟨w.heap.size+4,0,none⟩ (.int .i64 0))).same D _ hK rfl;have e2:=fi (dA (c:=w.heap.size+4) (o:=0) (dA (c:=w.heap.size+3) (o:=0) (ng (o:=1) (ng (o:=0) c2 (.int .i64 0)) (.int .i64 0)) aa (.bool false)) aa (.int .i64 0)) (grownBy_putObj' _ D (.deferred none)) (fun r e=>by cases e;exact⟨_,hK',rfl⟩);have e3:=fi (dA (c:=w.heap.size+4) (o:=0) (ng (o:=0) (dA (c:=w.heap.size+2) (o:=1) (dA (c:=w.heap.size+2) (o:=0) c3 aa (.int .i64 0)) aa (.int .i64 0)) (.bool false)) aa (.int .i64 0)) (grownBy_putObj' _ D (.deferred none)) (fun r e=>by cases e;exact⟨_,hK',rfl⟩);have e4:=fi (ng (o:=0) (dA (c:=w.heap.size+3) (o:=0) (dA (c:=w.heap.size+2) (o:=1) (dA (c:=w.heap.size+2) (o:=0) c4 aa (.int .i64 0)) aa (.int .i64 0)) aa (.bool false)) (.int .i64 0)) (grownBy_putObj' _ D (.deferred none)) (fun r e=>by cases e;exact⟨_,hK',rfl⟩);have hB4:=((((hB.setCell (p:=⟨w.heap.size+2,0,none⟩) ah (.int .i64 0)).setCell (p:=⟨w.heap.size+2,1,none⟩) ah (.int .i64 0)).setCell (p:=⟨w.heap.size+3,0,none⟩) ah (.bool false)).setCell (p:=⟨w.heap.size+4,0,none⟩) ah (.int .i64 0)).trans (belowK_b (w:=w) (Xz _) _ D _ (.deferred none) (by simp at hD;omega) hK' rfl rfl);gi_wp2
  refine⟨by simp,.inl ⟨_,_,rfl,run_takeDeferred hK',?_⟩⟩;refine⟨.tuple #[Pfx.zero.v,.bool false,.int .i64 0],?_,by rw[qC.out],hB4⟩;have y0:=dy (o:=0) e2 rfl;have y1:=dy (o:=1) e2 rfl;have y2:=dy (o:=0) e3 rfl;have y3:=dy (o:=0) e4 rfl;unfold Pfx.zero Pfx.v;simp[results,f238,go_sem,y0,y1,y2,y3]
 case stop=>
  rintro D c pre W hD a0r ⟨⟨rfl,q,x,hq,hx,hn,c2,c3,c4⟩,hB⟩ hK;have qC:mT root us size=(⟨x.at_,size⟩,true,0):=by
   unfold mT;rw[aj Ex,af aa];have:(jR root us).find? (fun q=>decide (q.len<=size))=some x:=by
    obtain⟨r,hr⟩:=a0r;unfold jR;rw[<-hr,hq,XV,List.find?_append];have h1:q.find? (fun q=>decide (q.len<=size))=none:=by
     rw[Yr];intro y hy;rw[hn y hy];simp
    rw[h1];simp only[X9,List.find?_cons,hx,Option.none_or]
   rw[this]
  replace qC:=Xj qC;replace hn:=Xj hn;replace hq:=Xj hq;replace a0r:=Xj a0r;have e2:=fi c2 (grownBy_putObj' _ D (.deferred none)) (fun r e=>by cases e;exact⟨_,hK,rfl⟩);have e3:=fi c3 (grownBy_putObj' _ D (.deferred none)) (fun r e=>by cases e;exact⟨_,hK,rfl⟩);have e4:=fi c4 (grownBy_putObj' _ D (.deferred none)) (fun r e=>by cases e;exact⟨_,hK,rfl⟩);have hB4:=hB.trans (belowK_b (w:=w) (Xz _) _ D _ (.deferred none) (by simp at hD;omega) hK rfl rfl);gi_wp2
  refine⟨by simp,.inl ⟨_,_,rfl,run_takeDeferred hK,?_⟩⟩;refine⟨.tuple #[Pfx.v ⟨x.at_,size⟩,.bool true,.int .i64 0],?_,by rw[qC.out],hB4⟩;have y0:=dy (o:=0) e2 rfl;have y1:=dy (o:=1) e2 rfl;have y2:=dy (o:=0) e3 rfl;have y3:=dy (o:=0) e4 rfl;unfold Pfx.v;simp[results,f238,go_sem,y0,y1,y2,y3]
theorem T7 {A:nC}(root:Pfx)(us:List Pfx)(uo:Option Addr)(ucap:Nat)(size:Int)(w:World)(h:Sl A w 2 Pfx.R uo ucap us):
 Calls prog 238 #[.agg #[.int .i64 root.at_,.int .i64 root.len,.slice uo us.length ucap],.int .i64 size] w fun e w'=>
  e= .returned (.tuple #[(mT root us size).1.v,.bool (mT root us size).2.1,.int .i64 (mT root us size).2.2])/\cM w w':=by
 by_cases h0:iW root us=0
 ·by_cases h1:root.len<=size/\size<=16
  ·exact Qd root us uo ucap size w h h0 h1.1 h1.2
  ·have hf:mT root us size=(Pfx.zero,false,3):=by unfold mT;rw[aj h0,aj aa]
   rw[hf];have bp:=fun W (h:Sl A W 2 Pfx.R uo ucap us)=>jQ root us uo ucap W h;rw[h0]at bp;replace bp:=Xj bp;clear hf h0;unfold Pfx.zero Pfx.v;by_cases h2:size < root.len
   ·have j0:decide (size < root.len)=true:=by simp[h2]
    clear h1;go_enter func238,ntmps238
    go_wp2_with fail
    refine(bp.out _ (h.ext (al (az _ _) (al (az _ _) (al (az _ _) (al (az _ _) (az _ _))))))).mono ?_;rintro e w1 ⟨rfl,ci⟩;obtain⟨cm,cq⟩:=aV ci;have ct:=bv ci;(try simp only[Xs,ae,Xw,Xu]at cm cq ct)
    go_wp2_with fail
    refine bodyPost_ret ?_ rfl ⟨rfl,Bel.bel (B:=_) ?_⟩
    ·exact a6i
    ·exact dM
   ·have j0:decide (size < root.len)=false:=by simp[h2]
    have lh:decide (16 < size)=true:=aK;clear h1;go_enter func238,ntmps238
    go_wp2_with fail
    refine(bp.out _ (h.ext (al (az _ _) (al (az _ _) (al (az _ _) (al (az _ _) (az _ _))))))).mono ?_;rintro e w1 ⟨rfl,ci⟩;obtain⟨cm,cq⟩:=aV ci;have ct:=bv ci;(try simp only[Xs,ae,Xw,Xu]at cm cq ct)
    go_wp2_with fail
    refine bodyPost_ret ?_ rfl ⟨rfl,Bel.bel (B:=_) ?_⟩
    ·exact a6i
    ·exact dM
 ·have hf:mT root us size=(Pfx.zero,false,iW root us):=by unfold mT;rw[af h0]
  rw[hf];have bp:=fun W (h:Sl A W 2 Pfx.R uo ucap us)=>jQ root us uo ucap W h;obtain⟨c,hc⟩:∃c,c=iW root us:=⟨_,rfl⟩;rw[<-hc]at bp h0 ⊢;have bH:(c !=0)=true:=by simpa using h0
  replace bp:=Xj bp;clear hf h0 hc;unfold Pfx.zero Pfx.v;go_enter func238,ntmps238
  go_wp2_with fail
  refine(bp.out _ (h.ext (al (az _ _) (al (az _ _) (al (az _ _) (al (az _ _) (az _ _))))))).mono ?_;rintro e w1 ⟨rfl,ci⟩;obtain⟨cm,cq⟩:=aV ci;have ct:=bv ci;(try simp only[Xs,ae,Xw,Xu]at cm cq ct)
  go_wp2_with fail
  refine bodyPost_ret ?_ rfl ⟨rfl,Bel.bel (B:=_) ?_⟩
  ·exact a6i
  ·exact dM
end
section
open Go.Proofs
theorem SO {Q P:Prop}(q:Q)(h:Hm Q->P:=by
 intro q;refine sr aJ aJ (fun _ _ d _ _ h=>by cases d<;>exact h) ?_;repeat(first|((first|refine fu rfl rfl rfl cG ?_|refine fw rfl rfl rfl cG ?_|refine fy rfl rfl rfl cG ?_);simp only[Act.put,XO,XQ,XZ])|(apply iU;(first|exact dG rfl|exact ei rfl rfl rfl cG);intro wq iP R hR;((have mX:=(aV iP).1;(try simp only[Xs,ae,Xw,Xu]at mX));go_simp;first|exact hR|(first|(go_at_call 135;exact qb (d9.out _) hR)|(go_at_call 72;exact qb (Vj.out _) hR)|(go_at_call 72;exact qb (hm.out _) hR)));simp only[Act.put,XO,XQ,XZ]))
 exact q.out):P:=h ⟨q⟩
def oq (q p:Pfx):Bool:=pq q.at_ q.len p.at_ p.len
def Cu (p q:Pfx):Bool:=Ba p.at_ p.len q.at_ q.len
theorem Bb {A:nC}(root:Pfx)(us:List Pfx)(uo:Option Addr)(ucap:Nat)(p:Pfx)(w:World)(h:Sl A w 2 Pfx.R uo ucap us):
 Calls prog 277 #[.agg #[.int .i64 root.at_,.int .i64 root.len,.slice uo us.length ucap],.agg #[.int .i64 p.at_,.int .i64 p.len]] w fun e w'=>e= .returned (.bool (us.any fun q=>oq q p))/\cM w w':=by
 have gU:=h.cap_le;have JS:=h.cap_max;obtain⟨r,hr⟩:∃r,r=us.any fun q=>oq q p:=⟨_,rfl⟩;rw[<-hr];replace hr:=Xj hr;go_enter func277,ntmps277
 go_wp2_with fail
 go_loopw [5] (fun s5 wr=>∃k:Nat,k<=us.length/\s5= .int .i64 k/\Hid (∀j (h:j < k) (h':j < us.length),oq us[j] p=false)/\cM ((w.alloc (.cells #[.int .i64 root.at_,.int .i64 root.len,.slice uo us.length ucap] 149)).alloc (.cells #[.int .i64 p.at_,.int .i64 p.len] 23)) wr) (fun s5 _=>us.length - (intOf s5).toNat)
 case atStart=>exact⟨0,XD _,rfl,Xj (fun j hj=>absurd hj (YH _)),Below.refl _ _⟩
 case round=>
  obtain⟨k,hk,rfl,bo,hx⟩:=hrel;have Aw:=al (al (az _ _) (az _ _)) hx;obtain⟨hcr,sU⟩:=aV hx;have hzr:=bv hx;(try simp only[Xs,ae,Xw,Xu]at hcr sU hzr)
  have lr:w.heap.size < wr.heap.size:=aa;have lr1:w.heap.size+1 < wr.heap.size:=aa;by_cases hlt:k < us.length
  ·have ed:(k:Int) < (us.length:Int):=aa;obtain⟨b,off,cs,rfl,-,bB,hR,eV⟩:=h.elem k hlt;replace eV:=fh Aw eV;unfold Pfx.R at hR;subst hR;obtain⟨k0,k1⟩:=ko eV;have lb:=cW k0;obtain⟨y,hy⟩:∃y,y=us[k]:=⟨_,rfl⟩;rw[<-hy]at k0 k1;replace hy:=Xj hy;have hm:=tQ y.at_ y.len p.at_ p.len;obtain⟨q,hq⟩:∃q,q=oq y p:=⟨_,rfl⟩;unfold oq at hq;rw[<-hq]at hm;replace hq:=Xj hq;replace hm:=Xj hm;clear eV h;cases q
   case true=>
    go_wp2_with fail
    refine SO ?_;refine dY ?_;intro w2 cj;obtain⟨dB,dr⟩:=aV cj;have dC:=bv cj;(try simp only[Xs,ae,Xw,Xu]at dB dr dC)
    go_wp2_with fail
    go_ret
    exact⟨dw (by rw[hr.out,XU.2 ⟨us[k],Ye hlt,by rw[<-hy.out];exact hq.out.symm⟩]),al Aw cj⟩
   case false=>
    go_wp2_with fail
    refine SO ?_;refine dY ?_;intro w2 cj;obtain⟨dB,dr⟩:=aV cj;have dC:=bv cj;(try simp only[Xs,ae,Xw,Xu]at dB dr dC)
    go_wp2_with fail
    go_roundw
    case rel=>exact⟨k+1,by omega,by go_num,Xj (fun j hj hj'=>by
     rcases _g (_o hj)with h1|h1
     ·exact bo.out j h1 hj'
     ·subst h1;rw[<-hy.out];exact hq.out.symm),al hx cj⟩
    case measure=>simp[intOf];omega
  ·have ed:¬(k:Int) < (us.length:Int):=aa;obtain rfl:k=us.length:=aa;go_wp2_with fail
   go_ret
   exact⟨dw (by
    rw[hr.out,Yh.2 (fun x hx=>?_)];obtain⟨j,hj,rfl⟩:=X3.1 hx;rw[bo.out j hj hj];simp),Aw⟩
def gN (root:Pfx):Option Pfx->List Pfx->Bool
 |_,[]=>true
 |none,p::ps=>Cu p root&&gN root (some p) ps
 |some q,p::ps=>Cu p root&&(!(decide (p.at_<=q.at_)||oq q p)&&gN root (some p) ps)
theorem zm (root p:Pfx)(ps:List Pfx):gN root none (p::ps)=(Cu p root&&gN root (some p) ps):=rfl
theorem zn (root q p:Pfx)(ps:List Pfx):gN root (some q) (p::ps)=(Cu p root&&(!(decide (p.at_<=q.at_)||oq q p)&&gN root (some p) ps)):=rfl
theorem M8 (root:Pfx)(q:Option Pfx):gN root q []=true:=by cases q<;>rfl
def tZ (root:Pfx)(us:List Pfx):Int:=if us.length>32 then 2 else if bF root.at_ root.len then (if gN root none us then 0 else 1)else 1
def sE (us:List Pfx)(k:Nat):Option Pfx:=if k=0 then none else us[k - 1]?
theorem zo {A:nC}(root:Pfx)(us:List Pfx)(uo:Option Addr)(ucap:Nat)(w:World)(h:Sl A w 2 Pfx.R uo ucap us):
 Calls prog 67 #[.agg #[.int .i64 root.at_,.int .i64 root.len,.slice uo us.length ucap]] w fun e w'=>e= .returned (.int .i64 (tZ root us))/\cM w w':=by
 have gU:=h.cap_le;have JS:=h.cap_max;have Lu:=sq root.at_ root.len;by_cases eG:us.length>32
 ·have hr:tZ root us=2:=by unfold tZ;rw[aj eG]
  rw[hr];have hI:(32:Int) < (us.length:Int):=aa;clear hr eG Lu;go_enter func67,ntmps67
  go_wp2_with fail
  go_ret
  refine⟨rfl,Bel.bel (B:=_) ?_⟩;exact dM
 ·have hI:(us.length:Int)<=32:=aa;cases hR:bF root.at_ root.len
  case false=>
   have hr:tZ root us=1:=by unfold tZ;rw[af eG,hR];rfl
   rw[hr];rw[hR]at Lu;replace Lu:=Xj Lu;clear hr eG hR;go_enter func67,ntmps67
   go_wp2_with fail
   refine(Lu.out _).mono ?_;rintro e w1 ⟨rfl,ci⟩;obtain⟨cm,cq⟩:=aV ci;have ct:=bv ci;(try simp only[Xs,ae,Xw,Xu]at cm cq ct)
   go_wp2_with fail
   go_ret
   refine⟨rfl,Bel.bel (B:=_) ?_⟩;exact dM
  case true=>
   obtain⟨r,hr⟩:∃r,r=tZ root us:=⟨_,rfl⟩;rw[<-hr];have lD:r=if gN root none us then 0 else 1:=by rw[hr];unfold tZ;rw[af eG,hR];rfl
   rw[hR]at Lu;replace Lu:=Xj Lu;clear hr eG hR;replace hr:=Xj lD;clear lD;go_enter func67,ntmps67
   go_wp2_with fail
   refine(Lu.out _).mono ?_;rintro e w1 ⟨rfl,ci⟩;obtain⟨cm,cq⟩:=aV ci;have ct:=bv ci;(try simp only[Xs,ae,Xw,Xu]at cm cq ct)
   have nq:=al (az _ _) ci;have l1:w.heap.size < w1.heap.size:=aa;go_wp2_with fail
   go_loopw [3] (fun s3 wr=>∃(k:Nat),k<=us.length/\s3= .int .i64 k/\Hid (gN root none us=gN root (sE us k) (us.drop k))/\cM w1 wr) (fun s3 _=>us.length - (intOf s3).toNat)
   case atStart=>exact⟨0,XD _,rfl,Xj rfl,Below.refl _ _⟩
   case round=>
    obtain⟨k,hk,rfl,hu,hx⟩:=hrel;have Aw:=al nq hx;obtain⟨hcr,sU⟩:=aV hx;have hzr:=bv hx;have lr:w.heap.size < wr.heap.size:=aa;by_cases hlt:k < us.length
    ·have ed:(k:Int) < (us.length:Int):=aa;have HS:us.drop k=us[k]::us.drop (k+1):=YR hlt;have HT:sE us (k+1)=some us[k]:=by unfold sE;rw[af aa];simp[Xk hlt]
     rw[HS]at hu;clear HS;obtain⟨b,off,cs,huo,-,bB,hRR,eV⟩:=h.elem k hlt;replace eV:=fh Aw eV;unfold Pfx.R at hRR;subst hRR;obtain⟨k0,k1⟩:=ko eV;have lb:=cW k0;obtain⟨p,hp⟩:∃p,p=us[k]:=⟨_,rfl⟩;rw[<-hp]at k0 k1 hu HT;replace HT:=Xj HT;clear eV hp;have d9:=tP p.at_ p.len root.at_ root.len;obtain⟨q,hq⟩:∃q,q=Ba p.at_ p.len root.at_ root.len:=⟨_,rfl⟩;rw[<-hq]at d9;match k,hk,hlt with
     |0,hk,hlt=>
      have AQ:gN root none us=(q&&gN root (some p) (us.drop 1)):=by rw[hu.out];show gN root none (p::us.drop 1)=_;rw[zm,hq];rfl
      clear hu hq h;subst huo;rw[Nat.zero_mul,XT]at k0 k1;replace d9:=Xj d9;cases q
      case false=>
       have gL:r=1:=by rw[hr.out,AQ];rfl
       replace gL:=Xj gL;clear AQ hr;go_wp2_with fail
       refine SO ?_;refine dY ?_;intro w2 cj;obtain⟨dB,dr⟩:=aV cj;have dC:=bv cj;(try simp only[Xs,ae,Xw,Xu]at dB dr dC)
       go_wp2_with fail
       go_ret
       exact⟨b9 gL.out.symm,al Aw cj⟩
      case true=>
       have Sn:gN root none us=gN root (sE us (0+1)) (us.drop (0+1)):=by rw[AQ,HT.out];rfl
       replace Sn:=Xj Sn;clear AQ;go_wp2_with fail
       refine SO ?_;refine dY ?_;intro w2 cj;obtain⟨dB,dr⟩:=aV cj;have dC:=bv cj;(try simp only[Xs,ae,Xw,Xu]at dB dr dC)
       go_wp2_with fail
       go_roundw
       case rel=>exact⟨0+1,by omega,by go_num,Sn,al hx cj⟩
       case measure=>simp[intOf];try omega
     |j+1,hk,hlt=>
      have R8:j < us.length:=aa;obtain⟨b',off',cs',a1T,-,a3l,a1U,Oe⟩:=h.elem j R8;rw[huo]at a1T;cases a1T;replace Oe:=fh Aw Oe;unfold Pfx.R at a1U;subst a1U;obtain⟨m0,m1⟩:=ko Oe;have hpj:sE us (j+1)=some us[j]:=by unfold sE;rw[af aa];simp[Xk R8]
      rw[hpj]at hu;obtain⟨y,hy⟩:∃y,y=us[j]:=⟨_,rfl⟩;rw[<-hy]at m0 m1 hu;clear hpj hy Oe h;subst huo;have Vj:=tQ y.at_ y.len p.at_ p.len;obtain⟨t,ht⟩:∃t,t=oq y p:=⟨_,rfl⟩;have AQ:gN root none us=(q&&(!(decide (p.at_<=y.at_)||t)&&gN root (some p) (us.drop (j+1+1)))):=by rw[hu.out,zn,hq,ht];rfl
      unfold oq at ht;rw[<-ht]at Vj;clear hu ht hq;replace d9:=Xj d9;replace Vj:=Xj Vj;have nI:IntKind.i64.wrap (j:Int)=(j:Int):=IntWalk.i64_in _ aa;have a3s:IntKind.i64.wrap ((j:Int)+1 - 1)=(j:Int):=by rw[show ((j:Int)+1 - 1)=j from by omega];exact nI
      have hj0:(0:Int)<=(j:Int):=aa;have a3m:(0:Int) < (j:Int)+1:=aa;have a3n:(j:Int) < (us.length:Int):=aa;have a3o:(j:Int)+1 < (us.length:Int):=aa;have htn:((j:Int)+1).toNat=j+1:=aa;have hp1:(0:Int)<=(j:Int)+1:=aa;clear ed;cases q
      case false=>
       have gL:r=1:=by rw[hr.out,AQ];rfl
       replace gL:=Xj gL;clear AQ hr;go_wp2_with fail
       refine SO ?_;refine dY ?_;intro w2 cj;obtain⟨dB,dr⟩:=aV cj;have dC:=bv cj;(try simp only[Xs,ae,Xw,Xu]at dB dr dC)
       go_wp2_with fail
       go_ret
       exact⟨b9 gL.out.symm,al Aw cj⟩
      case true=>
       by_cases hge:p.at_<=y.at_
       ·have gL:r=1:=by rw[hr.out,AQ];simp[hge]
        replace gL:=Xj gL;clear AQ hr;go_wp2_with fail
        refine SO ?_;refine dY ?_;intro w2 cj;obtain⟨dB,dr⟩:=aV cj;have dC:=bv cj;(try simp only[Xs,ae,Xw,Xu]at dB dr dC)
        go_wp2_with fail
        go_ret
        exact⟨b9 gL.out.symm,al Aw cj⟩
       ·have a2M:decide (p.at_<=y.at_)=false:=by simp[hge]
        cases t
        case true=>
         have gL:r=1:=by rw[hr.out,AQ];simp
         replace gL:=Xj gL;clear AQ hr;go_wp2_with fail
         refine SO ?_;refine dY ?_;intro w2 cj;obtain⟨dB,dr⟩:=aV cj;have dC:=bv cj;(try simp only[Xs,ae,Xw,Xu]at dB dr dC)
         go_wp2_with fail
         go_ret
         exact⟨b9 gL.out.symm,al Aw cj⟩
        case false=>
         have Sn:gN root none us=gN root (sE us (j+1+1)) (us.drop (j+1+1)):=by rw[AQ,HT.out,a2M];rfl
         replace Sn:=Xj Sn;clear AQ;go_wp2_with fail
         refine SO ?_;refine dY ?_;intro w2 cj;obtain⟨dB,dr⟩:=aV cj;have dC:=bv cj;(try simp only[Xs,ae,Xw,Xu]at dB dr dC)
         go_wp2_with fail
         go_roundw
         case rel=>exact⟨j+1+1,by omega,by go_num,Sn,al hx cj⟩
         case measure=>simp[intOf];omega
    ·have ed:¬(k:Int) < (us.length:Int):=aa;obtain rfl:k=us.length:=aa;have gL:r=0:=by rw[hr.out,hu.out,Zc,M8];rfl
     replace gL:=Xj gL;clear hr hu;go_wp2_with fail
     go_ret
     exact⟨b9 gL.out.symm,Aw⟩
end
theorem a5W {p:Prop}(h:p:=by
 intro u hu;rcases X2.1 hu with rfl|hu
 ·exact h1
 ·exact g1 u hu):p:=h
section
open Go.Proofs
def wJ (a b:Pfx):Prop:=a.hi<=b.at_
theorem oX (root:Pfx):∀(us:List Pfx) (f:Int),jP root f us=true↔(∀u∈us,dZ u root=true)/\(∀u∈us,f<=u.at_)/\us.Pairwise wJ
 |[],f=>by simp[jP]
 |p::ps,f=>by
  rw[wI,Xt,Xt,decide_eq_true_eq,oX root ps,YC];constructor
  ·intro⟨h1,h2,h3,h4,h5⟩;have hp:=p.hi_bd (cw.1 h1).1;refine⟨?_,?_,⟨fun u hu=>h4 u hu,h5⟩⟩
   ·intro u hu;rcases X2.1 hu with rfl|hu
    ·exact h1
    ·exact h3 u hu
   ·intro u hu;rcases X2.1 hu with rfl|hu
    ·exact h2
    ·have:=h4 u hu;unfold Pfx.hi at hp;omega
  ·intro⟨h1,h2,h3,h4⟩;exact⟨h1 p ah,h2 p ah,fun u hu=>h1 u (by simp[hu]),fun u hu=>h3 u hu,h4⟩
theorem qX (root:Pfx):∀(us:List Pfx) (q:Pfx),q.right=true->(gN root (some q) us=true↔(∀u∈us,dZ u root=true)/\(∀u∈us,q.hi<=u.at_)/\us.Pairwise wJ)
 |[],q,_=>by simp[gN]
 |p::ps,q,hq=>by
  have hqb:=q.hi_bd hq;rw[zn,Xt,Xt,YC];have e1:Cu p root=dZ p root:=xK p root;rw[e1];constructor
  ·intro⟨h1,h2,h3⟩;have LG:=(cw.1 h1).1;have hp:=p.hi_bd LG;rw[qX root ps p LG]at h3;obtain⟨g1,g2,g3⟩:=h3;have h4:q.hi<=p.at_:=by
    simp only[ZO,Zx,decide_eq_false_iff_not]at h2;obtain⟨k1,k2⟩:=h2;have k3:¬q.meets p=true:=by rw[<-fI];unfold oq at k2;rw[k2];simp
    rw[ee]at k3;rcases X' p.at_ q.hi with h|h
    ·exact absurd ⟨hq,LG,by omega,h⟩ k3
    ·exact h
   refine⟨?_,?_,⟨fun u hu=>g2 u hu,g3⟩⟩
   ·exact a5W
   ·intro u hu;rcases X2.1 hu with rfl|hu
    ·exact h4
    ·have:=g2 u hu;omega
  ·intro⟨h1,h2,h3,h4⟩;have AJ:=h1 p ah;have LG:=(cw.1 AJ).1;have hqp:=h2 p ah;refine⟨AJ,?_,(qX root ps p LG).2 ⟨fun u hu=>h1 u (by simp[hu]),fun u hu=>h3 u hu,h4⟩⟩;simp only[ZO,Zx,decide_eq_false_iff_not];refine⟨by omega,?_⟩;unfold oq;rw[fI,YD];intro h;have:=(ee.1 h).2.2;omega
theorem T8 (root:Pfx)(us:List Pfx):gN root none us=jP root root.at_ us:=by
 rw[Yk,oX];cases us with
 |nil=>simp[gN]
 |cons p ps=>
  rw[zm,Xt,YC];have e1:Cu p root=dZ p root:=xK p root;rw[e1];constructor
  ·intro⟨h1,h2⟩;obtain⟨k1,k2,k3,k4⟩:=cw.1 h1;have hp:=p.hi_bd k1;rw[qX root ps p k1]at h2;obtain⟨g1,g2,g3⟩:=h2;refine⟨?_,?_,⟨fun u hu=>g2 u hu,g3⟩⟩
   ·exact a5W
   ·intro u hu;rcases X2.1 hu with rfl|hu
    ·exact k3
    ·have:=g2 u hu;omega
  ·intro⟨h1,h2,h3,h4⟩;have AJ:=h1 p ah;exact⟨AJ,(qX root ps p (cw.1 AJ).1).2 ⟨fun u hu=>h1 u (by simp[hu]),fun u hu=>h3 u hu,h4⟩⟩
theorem T9 (root:Pfx)(us:List Pfx):tZ root us=iW root us:=by
 unfold tZ iW;rw[T8];by_cases h:us.length>32
 ·rw[aj h,aj h]
 ·rw[af h,af h];unfold bF;by_cases h2:chk root.at_ root.len=0
  ·simp[h2]
  ·simp[h2]
structure SpaceOK (root:Pfx)(us:List Pfx):Prop where
 rr:root.right=true
 many:us.length<=32
 ins:∀u∈us,dZ u root=true
 apart:us.Pairwise wJ
theorem oY {root:Pfx}{us:List Pfx}:iW root us=0↔SpaceOK root us:=by
 unfold iW;constructor
 ·intro h;split at h
  ·omega
  ·rename_i h1;split at h
   ·rename_i h2;split at h
    ·rename_i h3;obtain⟨g1,g2,g3⟩:=(oX root us _).1 h3;exact⟨by simp[Pfx.right,bF,h2],by omega,g1,g3⟩
    ·omega
   ·omega
 ·intro⟨h1,h2,h3,h4⟩;have hc:chk root.at_ root.len=0:=by unfold Pfx.right bF at h1;simpa using h1
  rw[af aa,aj hc,aj ((oX root us _).2 ⟨h3,fun u hu=>(cw.1 (h3 u hu)).2.2.1,h4⟩)]
end
theorem a4G {p:Prop}(h:p:=by
 rw[fe];obtain⟨k,hk,rn⟩:=oV x1 H2 pG;exact⟨qd (a:=x.at_) (l:=size) aa pG x3 x4 (ZQ (_d ⟨k,hk⟩ (YJ x5))),k1,H2,ZW _,po.1⟩):p:=h
theorem a5q {p:Prop}(h:p:=by
 rename_i h;obtain rfl:q=p:=by simpa using hq
 exact⟨Cv hr,by unfold jS;simpa using h⟩):p:=h
section
open Go.Proofs
def jS (us:List Pfx)(p:Pfx):Bool:=!us.any p.meets
theorem xM {p:Pfx}(h:p.right=true)(hl:p.len < 16):p.low.at_=p.at_/\p.low.hi=p.high.at_/\p.high.hi=p.hi/\p.at_ < p.high.at_/\p.high.at_ < p.hi:=by
 obtain⟨g1,-⟩:=p.bd h;have e:=tT g1 hl;have s1:=fH (n:=p.len+1) aa;unfold Pfx.low Pfx.high Pfx.hi;refine⟨rfl,rfl,?_,?_,?_⟩<;>simp<;>omega
theorem oZ {a b c:Pfx}(h:dZ a b=true)(k:dZ b c=true):dZ a c=true:=by
 rw[cw]at*;exact⟨h.1,k.2.1,by omega,by omega⟩
theorem Qe {b p:Pfx}(h:dZ b p=true)(hl:p.len < b.len):dZ b p.low=true\/dZ b p.high=true:=by
 obtain⟨k1,k2,k3,k4⟩:=cw.1 h;obtain⟨b1,b2,-⟩:=b.bd k1;have a0s:p.len < 16:=aa;obtain⟨e1,e2,e3,e4,e5⟩:=xM k2 a0s;have hb:=b.hi_bd k1;rcases X' b.at_ p.high.at_ with hlt|hle
 ·left;rw[fe];exact⟨k1,kq k2 a0s,by simp[Pfx.low];omega,by rw[e1];exact k3,by rw[e2];exact hlt⟩
 ·right;rw[fe];exact⟨k1,ji k2 a0s,by simp[Pfx.high];omega,hle,by rw[e3];omega⟩
theorem Qf {p:Pfx}(h:p.right=true)(hl:p.len < 16):dZ p.low p=true:=by
 obtain⟨e1,e2,e3,e4,e5⟩:=xM h hl;exact cw.2 ⟨kq h hl,h,by omega,by omega⟩
theorem M9 {p:Pfx}(h:p.right=true)(hl:p.len < 16):dZ p.high p=true:=by
 obtain⟨e1,e2,e3,e4,e5⟩:=xM h hl;exact cw.2 ⟨ji h hl,h,by omega,by omega⟩
theorem Cv {p:Pfx}(h:p.right=true):dZ p p=true:=cw.2 ⟨h,h,by omega,by omega⟩
theorem qk (us:List Pfx):∀(n:Nat) (p:Pfx),16 - p.len=(n:Int)->p.right=true->∀q∈dx us n p,dZ q p=true/\jS us q=true
 |0,p,hn,hr,q,hq=>by
  unfold dx at hq;split at hq
  ·cases hq
  ·exact a5q
 |n+1,p,hn,hr,q,hq=>by
  unfold dx at hq;split at hq
  ·split at hq
   ·cases hq
   ·have hl:p.len < 16:=aa;rcases X0.1 hq with h|h
    ·have:=qk us n p.low (by simp[Pfx.low];omega) (kq hr hl) q h;exact⟨oZ this.1 (Qf hr hl),this.2⟩
    ·have:=qk us n p.high (by simp[Pfx.high];omega) (ji hr hl) q h;exact⟨oZ this.1 (M9 hr hl),this.2⟩
  ·exact a5q
theorem qm (us:List Pfx):∀(n:Nat) (p:Pfx),16 - p.len=(n:Int)->p.right=true->(dx us n p).Pairwise wJ
 |0,p,hn,hr=>by unfold dx;split<;>simp
 |n+1,p,hn,hr=>by
  unfold dx;split
  ·split
   ·simp
   ·have hl:p.len < 16:=aa;have h1:=qm us n p.low (by simp[Pfx.low];omega) (kq hr hl);have h2:=qm us n p.high (by simp[Pfx.high];omega) (ji hr hl);refine YV.2 ⟨h1,h2,fun a ha b hb=>?_⟩;have ka:=(cw.1 (qk us n p.low (by simp[Pfx.low];omega) (kq hr hl) a ha).1);have kb:=(cw.1 (qk us n p.high (by simp[Pfx.high];omega) (ji hr hl) b hb).1);obtain⟨e1,e2,e3,e4,e5⟩:=xM hr hl;unfold wJ;omega
  ·simp
theorem zp (us:List Pfx)(hu:∀u∈us,u.right=true):∀(n:Nat) (p:Pfx),16 - p.len=(n:Int)->p.right=true->∀b,dZ b p=true->jS us b=true->∃h∈dx us n p,dZ b h=true
 |n,p,hn,hr,b,hb,hf=>by
  have w9:=(cw.1 hb).1;have hbh:=b.hi_bd w9;by_cases hm:us.any p.meets=true
  ·have Ls:us.contains p=false:=by
    rw[YD];intro hc;have hp:p∈us:=by simpa using hc
    have:us.any b.meets=true:=XU.2 ⟨p,hp,ee.2 ⟨w9,hr,by have:=fe.1 hb;omega,by have:=fe.1 hb;omega⟩⟩;unfold jS at hf;rw[this]at hf;cases hf
   have bB:p.len < b.len:=by
    have h3:=(fe.1 hb).2.2.1;rcases Int.lt_or_eq_of_le h3 with h|h
    ·exact h
    ·exfalso;have hi:=(cw.1 hb);have:b=p:=by
      obtain⟨ba,bl⟩:=b;obtain⟨pa,pl⟩:=p;simp only[Pfx.mk.injEq];simp only[Pfx.hi]at hi;simp only at h;subst h;exact⟨by omega,rfl⟩
     subst this;unfold jS at hf;rw[hm]at hf;cases hf
   obtain⟨b1,b2,-⟩:=b.bd w9;have hl:p.len < 16:=aa;match n,hn with
   |0,hn=>omega
   |n+1,hn=>
    unfold dx;rw[aj hm,af (by rw[Ls];simp)];rcases Qe hb bB with h|h
    ·obtain⟨q,hq,hi⟩:=zp us hu n p.low (by simp[Pfx.low];omega) (kq hr hl) b h hf;exact⟨q,X0.2 (.inl hq),hi⟩
    ·obtain⟨q,hq,hi⟩:=zp us hu n p.high (by simp[Pfx.high];omega) (ji hr hl) b h hf;exact⟨q,X0.2 (.inr hq),hi⟩
  ·refine⟨p,?_,hb⟩;match n with
   |0=>unfold dx;rw[af hm];simp
   |n+1=>unfold dx;rw[af hm];simp
theorem sF {root:Pfx}{us:List Pfx}(h:SpaceOK root us){q:Pfx}(hq:q∈jR root us):dZ q root=true/\jS us q=true:=by
 obtain⟨g1,g2,-⟩:=root.bd h.rr;exact qk us _ root aa h.rr q hq
theorem Bc {root:Pfx}{us:List Pfx}(h:SpaceOK root us):(jR root us).Pairwise wJ:=by
 obtain⟨g1,g2,-⟩:=root.bd h.rr;exact qm us _ root aa h.rr
theorem I2 {root:Pfx}{us:List Pfx}(h:SpaceOK root us){b:Pfx}(hb:dZ b root=true)(hf:jS us b=true):∃q∈jR root us,dZ b q=true:=by
 obtain⟨g1,g2,-⟩:=root.bd h.rr;exact zp us (fun u hu=>(cw.1 (h.ins u hu)).1) _ root aa h.rr b hb hf
theorem Gq {us:List Pfx}{a b:Pfx}(h:dZ a b=true)(hf:jS us b=true):jS us a=true:=by
 unfold jS at*;rw[ZO]at*;rw[Yh]at*;intro u hu hm;obtain⟨k1,k2,k3,k4⟩:=cw.1 h;obtain⟨m1,m2,m3,m4⟩:=ee.1 hm;exact hf u hu (ee.2 ⟨k2,m2,by omega,by omega⟩)
theorem Qg {root:Pfx}{us:List Pfx}(h:SpaceOK root us){size at_:Int}(mQ:root.len<=size)(pG:size<=16)(hi:dZ ⟨at_,size⟩ root=true)(hf:jS us ⟨at_,size⟩=true)
 (HU:∀b,b < at_->dZ ⟨b,size⟩ root=true->jS us ⟨b,size⟩=false):∃q,(jR root us).find? (fun q=>decide (q.len<=size))=some q/\q.at_=at_:=by
 obtain⟨q,hq,Vl⟩:=I2 h hi hf;have vZ:=(fe.1 Vl).2.2.1;cases iK:(jR root us).find? (fun q=>decide (q.len<=size))with
 |none=>
  rw[Yr]at iK;exact absurd vZ (by simpa using iK q hq)
 |some x=>
  refine⟨x,rfl,?_⟩;obtain⟨nq,⟨la,lb,iA,cg⟩⟩:=List.find?_eq_some_iff_append.1 iK;have H2:x.len<=size:=by simpa using nq
  have hxm:x∈jR root us:=by rw[iA];simp
  obtain⟨xi,xf⟩:=sF h hxm;obtain⟨k1,k2,k3,k4⟩:=cw.1 xi;obtain⟨x1,x2,x3,x4,x5⟩:=x.bd k1;obtain⟨g1,g2,-⟩:=root.bd h.rr;have po:=x.hi_bd k1;have cz:dZ ⟨x.at_,size⟩ x=true:=a4G
  have hge:at_<=x.at_:=by
   rcases X' x.at_ at_ with hlt|hle
   ·have:=HU x.at_ hlt (oZ cz xi);rw[Gq cz xf]at this;cases this
   ·exact hle
  have hle:x.at_<=q.at_:=by
   rw[iA]at hq;rcases X0.1 hq with h1|h1
   ·exact absurd (cg q h1) (by simp[vZ])
   ·rcases X2.1 h1 with rfl|h2
    ·exact ZW _
    ·have hs:=Bc h;rw[iA]at hs;have:=(YC.1 (YV.1 hs).2.1).1 q h2;unfold wJ at this;omega
  have hqa:=(cw.1 Vl).2.2.1;simp only at hqa;omega
theorem Qh {root:Pfx}{us:List Pfx}(h:SpaceOK root us){size:Int}(mQ:root.len<=size)(pG:size<=16)
 (cg:∀b,dZ ⟨b,size⟩ root=true->jS us ⟨b,size⟩=false):(jR root us).find? (fun q=>decide (q.len<=size))=none:=by
 rw[Yr];intro x hx H2;simp only[decide_eq_true_eq]at H2;obtain⟨xi,xf⟩:=sF h hx;obtain⟨k1,k2,k3,k4⟩:=cw.1 xi;obtain⟨x1,x2,x3,x4,x5⟩:=x.bd k1;obtain⟨g1,g2,-⟩:=root.bd h.rr;have po:=x.hi_bd k1;have cz:dZ ⟨x.at_,size⟩ x=true:=a4G
 have:=cg x.at_ (oZ cz xi);rw[Gq cz xf]at this;cases this
end
section
open Go.Proofs
def pC (root:Pfx)(us:List Pfx)(size:Int):Pfx × Bool:=
 match (jR root us).find? (fun q=>decide (q.len<=size))with|some q=>(⟨q.at_,size⟩,true)|none=>(Pfx.zero,false)
theorem Na (us:List Pfx)(p:Pfx):(us.any fun q=>oq q p)=us.any p.meets:=by
 congr 1;funext q;unfold oq;rw[fI,sv]
def KJ (us:List Pfx)(p:Pfx)(k:Nat)(f:Int):Prop:=p.at_<=f/\f<=65535/\(f=p.at_\/∃u∈us,u.right=true/\u.meets p=true/\f=u.hi - 1)
theorem Qi {us:List Pfx}{p u:Pfx}{k:Nat}{f:Int}(h:KJ us p k f)(hu:u∈us)(hr:u.right=true)(hm:u.meets p=true):KJ us p (k+1) (max f (u.hi - 1)):=by
 obtain⟨h1,h2,h3⟩:=h;have hb:=u.hi_bd hr;refine⟨by omega,by omega,?_⟩;rcases _z f (u.hi - 1)with hl|hl
 ·right;exact⟨u,hu,hr,hm,_x hl⟩
 ·rw[_B hl];exact h3
def Cw (root:Pfx)(us:List Pfx)(size at_:Int):Prop:=∀b,b < at_->dZ ⟨b,size⟩ root=true->jS us ⟨b,size⟩=false
theorem Gr (root:Pfx)(us:List Pfx)(size:Int):Cw root us size root.at_:=fun b hb hi=>by
 have:=(cw.1 hi).2.2.1;simp only at this;omega
theorem I3 {root:Pfx}{us:List Pfx}{size at_ f:Int}(h:Cw root us size at_)(hr:Pfx.right ⟨at_,size⟩=true)(hf:KJ us ⟨at_,size⟩ us.length f)(hm:us.any (Pfx.meets ⟨at_,size⟩)=true):
 Cw root us size (max at_ (f / eX size*eX size)+eX size):=by
 intro b hb hi;obtain⟨g1,g2,g3,g4,g5⟩:=Pfx.bd hr;simp only at g1 g2 g3 g4 g5;have s1:=fH g1;have w9:=(cw.1 hi).1;obtain⟨b1,b2,b3,b4,b5⟩:=Pfx.bd w9;simp only at b3 b4 b5;rcases X' b at_ with hlt|hle
 ·exact h b hlt hi
 ·
  have hd:eX size ∣ b - at_:=_w (YJ b5) (YJ g5);rcases Int.lt_or_eq_of_le hle with hlt|heq
  ·have h1:=tU aa (show 0 < b - at_ by omega) hd;have Bv:b<=f:=by
    have e1:=Int.emod_add_mul_ediv f (eX size);have e2:=Int.emod_nonneg f (b:=eX size) aa;have e3:f / eX size*eX size=eX size*(f / eX size):=Int.mul_comm _ _;rcases _z at_ (f / eX size*eX size)with hl|hl
    ·rw[_x hl]at hb;have C7:eX size ∣ f / eX size*eX size - b:=_w ⟨f / eX size,e3⟩ (YJ b5);rcases X' (f / eX size*eX size) b with qF|hle2
     ·have:=tU (s:=eX size) (x:=b - f / eX size*eX size) aa aa (by have:=Int.dvd_neg.2 C7;rwa [Int.neg_sub]at this);omega
     ·omega
    ·rw[_B hl]at hb;omega
   obtain⟨k1,k2,k3⟩:=hf;simp only at k1 k3;rcases k3 with k3|⟨u,hu,Vm,Oh,hfu⟩
   ·omega
   ·obtain⟨_,_,m3,m4⟩:=ee.1 Oh;simp only[Pfx.hi]at m3 m4;unfold jS;rw[XU.2 ⟨u,hu,ee.2 ⟨w9,Vm,by simp only;omega,by simp only[Pfx.hi];omega⟩⟩];rfl
  ·subst heq;unfold jS;rw[hm];rfl
theorem Qj {root:Pfx}{us:List Pfx}(h:SpaceOK root us){size at_:Int}(mQ:root.len<=size)(pG:size<=16)(hi:dZ ⟨at_,size⟩ root=true)(hm:us.any (Pfx.meets ⟨at_,size⟩)=false)(hn:Cw root us size at_):pC root us size=(⟨at_,size⟩,true):=by
 obtain⟨q,hq,he⟩:=Qg h mQ pG hi (by unfold jS;rw[hm];rfl) hn;unfold pC;rw[hq];simp only[he]
theorem Nb {root:Pfx}{us:List Pfx}(h:SpaceOK root us){size at_:Int}(mQ:root.len<=size)(pG:size<=16)(ha:root.hi<=at_)(hn:Cw root us size at_):pC root us size=(Pfx.zero,false):=by
 have:=Qh h mQ pG fun b hb=>hn b (by obtain⟨k1,k2,k3,k4⟩:=cw.1 hb;have:=Pfx.hi_bd k1;simp only at this;omega) hb;unfold pC;rw[this]
theorem Nc {A:nC}(root:Pfx)(us:List Pfx)(uo:Option Addr)(ucap:Nat)(size:Int)(w:World)(h:Sl A w 2 Pfx.R uo ucap us)(bJ:SpaceOK root us)(mQ:root.len<=size)(pG:size<=16):
 Calls prog 228 #[.agg #[.int .i64 root.at_,.int .i64 root.len,.slice uo us.length ucap],.int .i64 size] w fun e w'=>e= .returned (.tuple #[(pC root us size).1.v,.bool (pC root us size).2])/\cM w w':=by
 have gU:=h.cap_le;have JS:=h.cap_max;obtain⟨g1,g2,g3,g4,g5⟩:=root.bd bJ.rr;have rB:=root.hi_bd bJ.rr;have AA:0<=size:=aa;obtain⟨z1,z2⟩:=fH AA;have cL:=fun W=>yU size W AA pG;have pp:=tO root.at_ root.len;have wc:md root.at_ root.len=root.hi - 1:=rfl;have LF:bF root.at_ root.len=true:=bJ.rr;replace pp:=fun W=>pp W LF;rw[wc]at pp;obtain⟨R,hR⟩:∃R,R=pC root us size:=⟨_,rfl⟩;rw[<-hR];have hRh:=fun at_=>Qj (at_:=at_) bJ mQ pG;have hRm:=fun at_=>Nb (at_:=at_) bJ mQ pG;rw[<-hR]at hRh hRm;replace hRh:=Xj hRh;replace hRm:=Xj hRm;replace cL:=Xj cL;replace pp:=Xj pp;obtain⟨st,ec⟩:∃st,st=eX size:=⟨_,rfl⟩;rw[<-ec]at cL z1 z2;obtain⟨rh,hrh⟩:∃rh,rh=root.hi:=⟨_,rfl⟩;rw[<-hrh]at pp rB;have b8:=Gr root us size;have So:root.at_ % st=0:=by
  obtain⟨k,hk,-⟩:=oV g1 mQ pG;rw[ec];exact ZQ (_d ⟨k,hk⟩ (YJ g5))
 replace ec:=Xj ec;replace hrh:=Xj hrh;replace b8:=Xj b8;replace So:=Xj So;clear hR g5 wc LF;go_enter func228,ntmps228
 go_wp2_with fail
 refine(cL.out _).mono ?_;rintro e w1 ⟨rfl,rfl⟩;go_wp2_with fail
 go_loopw [7] (fun s7 wr=>∃at_:Int,s7= .int .i64 at_/\root.at_<=at_/\at_<=140000/\Hid (at_ % st=0)/\Hid (Cw root us size at_)/\cM ((w.alloc (.cells #[.int .i64 root.at_,.int .i64 root.len,.slice uo us.length ucap] 149)).alloc (.cells #[.int .i64 0,.int .i64 0] 23)) wr) (fun s7 _=>(200000 - intOf s7).toNat)
 case atStart=>exact⟨root.at_,rfl,ZW _,by omega,So,b8,Below.refl _ _⟩
 case round=>
  obtain⟨at_,rfl,ha1,ha2,rq,cg,hx⟩:=hrel;have Aw:=al (al (az _ _) (az _ _)) hx;obtain⟨hcr,sU⟩:=aV hx;have hzr:=bv hx;(try simp only[Xs,ae,Xw,Xu]at hcr sU hzr)
  have lr:w.heap.size < wr.heap.size:=aa;have lr1:w.heap.size+1 < wr.heap.size:=aa;go_wp2_with fail
  refine(pp.out _).mono ?_;rintro e w2 ⟨rfl,cj⟩;obtain⟨dB,dr⟩:=aV cj;have dC:=bv cj;(try simp only[Xs,ae,Xw,Xu]at dB dr dC)
  have l2:w.heap.size < w2.heap.size:=aa;have l21:w.heap.size+1 < w2.heap.size:=aa;have t0:w2.cell? ⟨w.heap.size+1,0,none⟩=some (.int .i64 0):=aU cj (aU hx ah);have t1:w2.cell? ⟨w.heap.size+1,1,none⟩=some (.int .i64 0):=aU cj (aU hx ah);have tf:∀o,w2.frozen? ⟨w.heap.size+1,o,none⟩=false:=fun o=>by rw[dr _ _ lr1,sU _ _ aa];simp
  by_cases hlt:at_<=rh - 1
  ·have hxw:=al Aw cj;have cz:dZ ⟨at_,size⟩ root=true:=by
    rw[fe];exact⟨qd (a:=at_) (l:=size) AA pG aa aa (by rw[<-ec.out];exact rq.out),bJ.rr,mQ,ha1,by rw[<-hrh.out];show at_ < rh;omega⟩
   have w9:=(cw.1 cz).1;replace cz:=Xj cz;replace w9:=Xj w9;go_wp2_with fail
   obtain⟨wo,hwo⟩:∃wo:World,wo=w2.alloc (.cells #[.int .i64 at_,.int .i64 size] 23):=⟨_,rfl⟩;have V2:cM w2 wo:=by rw[hwo];exact az _ _
   have q0:wo.cell? ⟨w2.heap.size,0,none⟩=some (.int .i64 at_):=by rw[hwo];simp
   have q1:wo.cell? ⟨w2.heap.size,1,none⟩=some (.int .i64 size):=by rw[hwo];simp
   have s0:wo.cell? ⟨w.heap.size,0,none⟩=some (.int .i64 root.at_):=aU V2 (aU cj (aU hx ah));have s1:wo.cell? ⟨w.heap.size,1,none⟩=some (.int .i64 root.len):=aU V2 (aU cj (aU hx ah));have s2:wo.cell? ⟨w.heap.size,2,none⟩=some (.slice uo us.length ucap):=aU V2 (aU cj (aU hx ah));have t0o:=aU V2 t0;have t1o:=aU V2 t1;have tfo:∀o,wo.frozen? ⟨w.heap.size+1,o,none⟩=false:=fun o=>by rw[(aV V2).2 _ _ l21];exact tf o
   have a0t:=al hxw V2;have l3:w2.heap.size < wo.heap.size:=by rw[hwo];simp
   have l31:w.heap.size < wo.heap.size:=aa;have l32:w.heap.size+1 < wo.heap.size:=aa;rw[<-hwo];clear hwo dB dr hcr sU t0 t1 tf pp;obtain⟨wz,rfl⟩:∃wz:World,wz=wr:=⟨_,rfl⟩;go_loopw [9,10] (fun s9 s10 wr2=>∃(k:Nat) (f:Int),k<=us.length/\s10= .int .i64 k/\s9= .int .i64 f/\at_<=f/\f<=65535/\Hid (KJ us ⟨at_,size⟩ k f)/\cM wo wr2) (fun _ s10 _=>us.length - (intOf s10).toNat)
   case atStart=>exact⟨0,at_,XD _,rfl,rfl,ZW _,by omega,Xj ⟨ZW _,(by show at_<=65535;omega),.inl rfl⟩,Below.refl _ _⟩
   case round=>
    obtain⟨k,f,hk,rfl,rfl,Dd,EE,Sp,j5⟩:=hrel;obtain⟨hcr,sU⟩:=aV j5;have a3t:=bv j5;have m1:w.heap.size < wr.heap.size:=aa;have m2:w2.heap.size < wr.heap.size:=aa;have m3:w.heap.size+1 < wr.heap.size:=aa;by_cases li:k < us.length
    ·have ed:(k:Int) < (us.length:Int):=aa;obtain⟨b,off,cs,rfl,-,bB,hR',eV⟩:=h.elem k li;replace eV:=fh (al a0t j5) eV;unfold Pfx.R at hR';subst hR';obtain⟨k0,k1⟩:=ko eV;have lb:=cW k0;have Vm:=(cw.1 (bJ.ins us[k] (Ye li))).1;have Oh:=Ye li;obtain⟨y,hy⟩:∃y,y=us[k]:=⟨_,rfl⟩;rw[<-hy]at k0 k1 Vm Oh;have hyb:=y.hi_bd Vm;have hm:=tQ y.at_ y.len at_ size;have pL:pq y.at_ y.len at_ size=y.meets ⟨at_,size⟩:=fI y ⟨at_,size⟩;rw[pL]at hm;have hl:=fun W=>tO y.at_ y.len W Vm;rw[show md y.at_ y.len=y.hi - 1 from rfl]at hl;obtain⟨q,hq⟩:∃q,q=y.meets ⟨at_,size⟩:=⟨_,rfl⟩;rw[<-hq]at hm;obtain⟨yh,hyh⟩:∃yh,yh=y.hi:=⟨_,rfl⟩;rw[<-hyh]at hl hyb;replace hyh:=Xj hyh;replace hq:=Xj hq;replace hm:=Xj hm;replace hl:=Xj hl;replace Vm:=Xj Vm;replace Oh:=Xj Oh;have hya:=(y.bd Vm.out).2.2.1;clear eV hy h pL;cases q
     case true=>
      have uz:=Qi Sp.out Oh.out Vm.out hq.out.symm;rw[<-hyh.out]at uz;replace uz:=Xj uz;go_wp2_with fail
      refine SO ?_;refine dY ?_;intro w4 ED;obtain⟨a0u,Sm⟩:=aV ED;have Sk:=bv ED;(try simp only[Xs,ae,Xw,Xu]at a0u Sm Sk)
      go_wp2_with fail
      refine(hl.out _).mono ?_;rintro e w5 ⟨rfl,Oi⟩;obtain⟨Sq,Oj⟩:=aV Oi;have Sr:=bv Oi;(try simp only[Xs,ae,Xw,Xu]at Sq Oj Sr)
      go_wp2_with fail
      go_roundw
      case rel=>exact⟨k+1,max f (yh - 1),by omega,by go_num,rfl,by omega,by omega,uz,al j5 (al ED Oi)⟩
      case measure=>simp[intOf];omega
     case false=>
      go_wp2_with fail
      refine SO ?_;refine dY ?_;intro w4 ED;obtain⟨a0u,Sm⟩:=aV ED;have Sk:=bv ED;(try simp only[Xs,ae,Xw,Xu]at a0u Sm Sk)
      go_wp2_with fail
      go_roundw
      case rel=>exact⟨k+1,f,by omega,by go_num,rfl,Dd,EE,Xj ⟨Sp.out.1,Sp.out.2.1,Sp.out.2.2⟩,al j5 ED⟩
      case measure=>simp[intOf];omega
    ·have ed:¬(k:Int) < (us.length:Int):=aa;obtain rfl:k=us.length:=aa;have hmu:=fun W (h:Sl A W 2 Pfx.R uo ucap us)=>Bb root us uo ucap ⟨at_,size⟩ W h;rw[Na]at hmu;simp only at hmu;obtain⟨q,hq⟩:∃q,q=us.any (Pfx.meets ⟨at_,size⟩):=⟨_,rfl⟩;rw[<-hq]at hmu;replace hq:=Xj hq;replace hmu:=Xj hmu;have hs4:=h.ext (al a0t j5);have l22:=l21;cases q
     case false=>
      have sV:=hRh.out at_ cz.out hq.out.symm cg.out;replace sV:=Xj sV;have t0r:=aU j5 t0o;have t1r:=aU j5 t1o;have tfr:∀o,wr.frozen? ⟨w.heap.size+1,o,none⟩=false:=fun o=>by rw[sU _ _ l32];exact tfo o
      go_wp2_with fail
      refine(hmu.out _ hs4).mono ?_;rintro e w5 ⟨rfl,Oi⟩;obtain⟨Sq,Oj⟩:=aV Oi;have Sr:=bv Oi;(try simp only[Xs,ae,Xw,Xu]at Sq Oj Sr)
      have t05:=aU Oi t0r;have t15:=aU Oi t1r;have tf5:∀o,w5.frozen? ⟨w.heap.size+1,o,none⟩=false:=fun o=>by rw[Oj _ _ m3];exact tfr o
      go_wp2_with fail
      refine bodyPost_ret ?_ rfl ⟨by rw[sV.out],?_⟩
      ·unfold Pfx.v;simp[results,results228,go_sem,t05,t15]
      ·exact Bel.bel (B:=w.heap.size) (((Bel.refl w).call (al a0t (al j5 Oi))).setCell0 aa _|>.setCell0 aa _)
     case true=>
      have V3:=I3 cg.out w9.out Sp.out hq.out.symm;rw[<-ec.out]at V3;have h9:0<=f / st/\f / st*st<=f:=⟨Int.ediv_nonneg aa aa,Int.ediv_mul_le f aa⟩;have h10:=h9.1;have h11:=h9.2;have Si:0<=f / st*st:=Int.mul_nonneg h10 aa;have mN:(max at_ (f / st*st)+st) % st=0:=by
       rw[Int.add_emod_right];rcases _z at_ (f / st*st)with hh|hh
       ·rw[_x hh];exact Int.mul_emod_left _ _
       ·rw[_B hh];exact rq.out
      replace V3:=Xj V3;replace mN:=Xj mN;clear h9;go_wp2_with fail
      refine(hmu.out _ hs4).mono ?_;rintro e w5 ⟨rfl,Oi⟩;obtain⟨Sq,Oj⟩:=aV Oi;have Sr:=bv Oi;(try simp only[Xs,ae,Xw,Xu]at Sq Oj Sr)
      go_wp2_with fail
      go_roundw
      case rel=>exact⟨_,rfl,by omega,by omega,mN,V3,al hx (al cj (al V2 (al j5 Oi)))⟩
      case measure=>simp[intOf];omega
  ·have HD:rh - 1 < at_:=aa;have sV:=hRm.out at_ (by rw[<-hrh.out];omega) cg.out;replace sV:=Xj sV;go_wp2_with fail
   refine bodyPost_ret ?_ rfl ⟨by rw[sV.out],?_⟩
   ·unfold Pfx.zero Pfx.v;simp[results,results228,go_sem,t0,t1]
   ·exact Bel.bel (B:=w.heap.size) (((Bel.refl w).call (al Aw cj)).setCell0 aa _|>.setCell0 aa _)
end
theorem Nd (root:Pfx)(us:List Pfx):ai prog 115 [.agg (IG root us)] (.v (.int .i64 (iW root us))):=by
 refine⟨bY func115 aJ rfl,fun M w vs hM hG dP=>?_⟩;obtain⟨v,vs,rfl,h1,dP⟩:=dQ dP;rw[jr dP];obtain⟨uo,cap,rfl,hs⟩:=DI h1;exact(jQ root us uo cap w hs).mono fun e w' ⟨he,hx⟩=>⟨_,he,.v _,hx⟩
theorem DV (root:Pfx)(us:List Pfx):ai prog 67 [.agg (IG root us)] (.v (.int .i64 (iW root us))):=by
 refine⟨bY func67 aJ rfl,fun M w vs hM hG dP=>?_⟩;obtain⟨v,vs,rfl,h1,dP⟩:=dQ dP;rw[jr dP];obtain⟨uo,cap,rfl,hs⟩:=DI h1;have:=zo root us uo cap w hs;rw[T9]at this;exact this.mono fun e w' ⟨he,hx⟩=>⟨_,he,.v _,hx⟩
theorem Ua (root:Pfx)(us:List Pfx)(size:Int):ai prog 238 [.agg (IG root us),.v (.int .i64 size)] (.tup [.agg (aS (mT root us size).1),.v (.bool (mT root us size).2.1),.v (.int .i64 (mT root us size).2.2)]):=by
 refine⟨bY func238 aJ rfl,fun M w vs hM hG dP=>?_⟩;obtain⟨v,vs,rfl,h1,dP⟩:=dQ dP;obtain⟨v,vs,rfl,h2,dP⟩:=dQ dP;rw[jr dP];obtain⟨uo,cap,rfl,hs⟩:=DI h1;rw[nD h2];exact(T7 root us uo cap size w hs).mono fun e w' ⟨he,hx⟩=>⟨_,he,DH rfl rfl,hx⟩
theorem Ub (root:Pfx)(us:List Pfx)(size:Int)(bJ:SpaceOK root us)(h1:root.len<=size)(h2:size<=16):ai prog 228 [.agg (IG root us),.v (.int .i64 size)] (.tup [.agg (aS (pC root us size).1),.v (.bool (pC root us size).2)]):=by
 refine⟨bY func228 aJ rfl,fun M w vs hM hG dP=>?_⟩;obtain⟨v,vs,rfl,g1,dP⟩:=dQ dP;obtain⟨v,vs,rfl,g2,dP⟩:=dQ dP;rw[jr dP];obtain⟨uo,cap,rfl,hs⟩:=DI g1;rw[nD g2];exact(Nc root us uo cap size w hs bJ h1 h2).mono fun e w' ⟨he,hx⟩=>⟨_,he,DH rfl rfl,hx⟩
theorem a5A {p:Prop}(h:p:=by
 refine pj func117 ntmps117 results117 ?_;exact bc;all_goals exact aP.refl _):p:=h
def gO:List Int->Bool
 |a::b::l=>decide (a<=b)&&gO (b::l)
 |_=>true
theorem sG:∀(l:List Int),gO l=true↔∀j (h:j+1 < l.length),l[j]<=l[j+1]
 |[]=>by simp[gO]
 |[a]=>by simp[gO]
 |a::b::l=>by
  have ih:=sG (b::l);simp only[gO,Xt,decide_eq_true_eq,ih];constructor
  ·exact a4i
  ·exact a4O
theorem I4 (l:List Int)(hl:l.length<=1000000000)(h0:l≠[]):ai prog 204 [.sl 1 (l.map fun n=>[a0V n])] (.v (.bool (gO l))):=by
 have N9:0 < l.length:=Zl.2 h0;have VO:IntKind.i64.wrap ((l.length:Int) - 1)=((l.length - 1:Nat):Int):=by rw[IntKind.wrap_i64];omega
 refine pj func204 ntmps204 results204 ?_;refine ap ?_<;>intros;refine bQ ag am (fun m e h=>∃i:Nat,i < l.length/\(∀j (h:j+1 < l.length),i<=j->l[j]<=l[j+1])/\m=i/\e=[(3,.d (.v (.int .i64 i))),(2,.d (.v (.bool false))),(0,.d (.sl 1 (l.map fun n=>[a0V n])))]/\h=[]) _ _ _ ⟨l.length - 1,by omega,fun j h1 h2=>by omega,rfl,rfl,rfl⟩ ?_ ?_
 ·exact wf (x:=[]) (hh:=rfl) (he:=⟨rfl,rfl,rfl,trivial⟩)
 ·rintro m e h ⟨i,hi,bJ,hm,rfl,rfl⟩ CL oH;by_cases mZ:0 < i
  ·obtain⟨x,hx⟩:∃x,l[i]? =some x:=⟨_,Xk hi⟩;obtain⟨y,hy⟩:∃y,l[i - 1]? =some y:=⟨_,Xk aa⟩;have pE:l[i]=x:=by rw[Xk hi]at hx;exact XW.inj hx
   have AO:l[i - 1]=y:=by rw[Xk aa]at hy;exact XW.inj hy
   have hgt:decide ((i:Int)>0)=true:=by simpa using mZ
   have hw:IntKind.i64.wrap ((i:Int) - 1)=((i - 1:Nat):Int):=by rw[IntKind.wrap_i64];omega
   cases hlt:decide (x < y)with
   |true=>
    have a0v:gO l=false:=by
     rw[YD,ne_eq,sG];intro h;have:=h (i - 1) aa;simp only[show i - 1+1=i by omega,pE,AO]at this;simp at hlt;omega
    have xB:=P5 x y;rw[hlt]at xB;exact bc;all_goals(rw[a0v];exact aP.refl _)
   |false=>
    have xB:=P5 x y;rw[hlt]at xB;refine ap ?_<;>intros;refine oH _ _ _ _ _ ?_ ⟨i - 1,by omega,?_,rfl,rfl,rfl⟩ (wf (x:=[]) (hh:=rfl) (he:=⟨rfl,rfl,rfl,trivial⟩))
    ·omega
    ·intro j hj hij;rcases XM (i - 1) j with h1|h1
     ·exact bJ j hj aa
     ·obtain rfl:j=i - 1:=aa;simp only[show i - 1+1=i by omega,pE,AO];simp at hlt;omega
  ·have hie:i=0:=aa;have a1V:gO l=true:=(sG l).2 fun j hj=>bJ j hj aa;have hgt:decide ((i:Int)>0)=false:=aK;replace hie:=Xj hie;exact bc;all_goals(rw[a1V];exact aP.refl _)
def dV (n:Int):Bool:=decide (1<=n)&&decide (n<=65536)
theorem Cy (n:Int):ai prog 114 [.v (.int .i64 n)] (.v (.bool (dV n))):=by
 cases e1:decide (n>=1)with
 |true=>
  have h1:decide (1<=n)=true:=e1;refine pj func114 ntmps114 results114 ?_;refine ap ?_<;>intros;all_goals(unfold dV;rw[h1];exact aP.refl _)
 |false=>
  have h1:decide (1<=n)=false:=e1;refine pj func114 ntmps114 results114 ?_;refine ap ?_<;>intros;all_goals(unfold dV;rw[h1];exact aP.refl _)
def fZ (r:Rul)(len:Int):Bool:=gO [len,r.min,r.usual,r.max,16]&&(decide (0<=r.cool)&&decide (r.cool<=1024))
theorem I5 (r:Rul)(root:Pfx):ai prog 117 [.agg (xj r),.agg (aS root)] (.v (.bool (fZ r root.len))):=by
 have hs:=I4 [root.len,r.min,r.usual,r.max,16] ah ah;unfold fZ;cases h0:gO [root.len,r.min,r.usual,r.max,16]with
 |false=>
  rw[h0]at hs;refine pj func117 ntmps117 results117 ?_;exact bc;all_goals exact aP.refl _
 |true=>
  rw[h0]at hs;show ai _ _ _ (.v (.bool (true&&(decide (r.cool>=0)&&decide (r.cool<=1024)))));cases e1:decide (r.cool>=0)with
  |true=>exact a5A
  |false=>exact a5A
def dD (p:Pol):List Pfx:=p.leases.map (·.at_)
theorem KK (p:Pol)(hb:p.leases.length<=3518437208882):ai prog 116 [.ept (an p)] (.agg (IG p.root (dD p))):=by
 refine pj func116 ntmps116 results116 ?_;refine ap ?_<;>intros;refine bQ ag am (fun m e h=>∃k g:Nat,k<=p.leases.length/\m=p.leases.length - k/\e=[(16,.d (.v (.int .i64 k))),(15,.d (.v (.int .i64 p.leases.length))),(14,.d (.sl 5 (p.leases.map bt))),(3,.ptr 1 0),(2,.ptr 0 0)]/\
  h=[.box 149 [.d (.v (.int .i64 0)),.d (.v (.int .i64 0)),.d (.v (.slice none 0 0))],.box 149 [.d (.v (.int .i64 p.root.at_)),.d (.v (.int .i64 p.root.len)),.own 2 g],.row 23 2 g (ab (((dD p).take k).map aS))]) _ _ _ ⟨0,0,XD _,rfl,rfl,rfl⟩ ?_ ?_
 ·exact(ay ah 1 _ _ 2 _ _ rfl rfl rfl).trans (wf (x:=[]) (hh:=rfl) (he:=⟨rfl,rfl,rfl,rfl,rfl,trivial⟩))
 ·rintro m e h ⟨k,g,hk,hm,rfl,rfl⟩ CL oH;by_cases hlt:k < p.leases.length
  ·obtain⟨l,hl⟩:∃l,p.leases[k]? =some l:=⟨_,Xk hlt⟩;have ed:(k:Int) < (p.leases.length:Int):=aa;have db:=wi k aa;have xz:(((dD p).take k).length+1)*16<=140737488355328:=by rw[Xp,dD,XB];omega
   refine ap ?_<;>intros;have hts:(dD p).take (k+1)=(dD p).take k++[l.at_]:=ak (by rw[dD,Xy,hl];rfl);refine oH _ _ _ _ _ ?_ ⟨k+1,g+1,hlt,rfl,rfl,rfl⟩ (wf (x:=[.box 96 ((bt l).map .d)]) (hh:=?_) (he:=⟨rfl,rfl,rfl,rfl,rfl,trivial⟩))
   ·omega
   ·rw[hts,Xo];rfl
  ·obtain rfl:k=p.leases.length:=aa;refine ap ?_<;>intros;rw[XG (by simp[dD])];all_goals exact aP.refl _
theorem a3N {p:Prop}(h:p:=by
 rename_i hp;obtain⟨q1,q2⟩:=VC hx.out hp;refine hC _ _ _ _ _ aa ⟨j+1,by omega,by omega,rfl,rfl,rfl⟩ ?_;rw[q1,q2];exact eF _ (by rw[gb];exact Xz _) rfl ⟨rfl,rfl,rfl,rfl,rfl,trivial⟩ (by rw[gb];simp only[eJ,au,hlt,LB,decide_true,Yq,YA]) (by rw[gb];exact ik _ _ _ _ hbh (by simp only[aR,aC]) hlt)):p:=h
theorem a3O {p:Prop}(h:p:=by
 rename_i hp;obtain⟨q1,q2⟩:=VD hx.out hp;refine hC _ _ _ _ _ aa ⟨j+1,by omega,by omega,rfl,rfl,rfl⟩ ?_;rw[q1,q2];exact eF _ (by rw[gb];exact Xz _) rfl ⟨rfl,rfl,rfl,rfl,rfl,trivial⟩ (by rw[gb];simp only[eJ,au,hlt,LB,decide_true,Yq,YA]) (by rw[gb];exact ik _ _ _ _ hbh (by simp only[aR,aC]) hlt)):p:=h
theorem a3V {p:Prop}(h:p:=by
 rw[ec.out.2.1,ec.out.2.2];refine eF [] (by rw[gb];exact Xz _) (by rw[vj h k _ hk hlt,Yi]) ⟨rfl,rfl,rfl,rfl,rfl,trivial⟩ (by rw[gb];simp only[eJ,au,hlt,LB,decide_true,Yq]) (by rw[gb];exact ik _ _ _ _ hbh (by simp only[aR,aC]) hlt)):p:=h
theorem a4L {p:Prop}(h:p:=by
 intro h;rw[h]at h2;simp at h2;omega):p:=h
theorem mw (p:Lse):(bt p).length=5:=rfl
theorem my (p:Pol):(an p).length=9:=rfl
theorem DW {α:Type}{enc:α->List D}(l:List α)(i j g:Nat)(hi:i < l.length)(hj:j=i+1):
 MSpec prog 242 [.own 0 g,.d (.v (.int .i64 i)),.d (.v (.int .i64 j))] [.row 96 5 g (ab (l.map enc))] (.own 0 (g+1)) [.row 96 5 (g+1) (ab ((l.eraseIdx i).map enc))]:=by
 have h1:((i:Int)==(j:Int))=false:=aK;have bH:¬ab (l.map enc)=[]:=by cases l<;>simp[ab]at hi ⊢
 have hle:(i:Int)<=(j:Int):=aa;have hle2:(j:Int)<=(l.length:Int):=aa;have mO:(l.map enc).length=l.length:=XB _;have h2:=m9 (ab (l.map enc)) i j l.length (by rw[aG,mO];exact hi) hj (by rw[aG,mO]);rw[aG,mO]at h2;have uA:=Xj hj;clear hj;have Oz:j<=l.length:=by have:=uA.out;omega
 have HU:min (l.length - j) (l.length - j)=l.length - j:=Zr _;have hlt:i+(l.length - j)<=l.length:=by have:=uA.out;omega
 have rn:l.length - (i+(l.length - j))=1:=by have:=uA.out;omega
 have jV:i+(l.length - j)+1<=l.length:=by have:=uA.out;omega
 have HV:¬aB (ab (l.map enc)) i (((ab (l.map enc)).drop j).take (l.length - j))=[]:=a4L
 refine mj func242 ntmps242 results242 ?_;have z1z:=@Xp.{0};have z2z:=@XS.{0};refine ft ?_ ?_ ?_ ?_ ?_ ?_ ?_ ?_<;>first|(with_reducible exact True.intro)|intros
 rw[gB];exact p9 (by rw[mO];exact hi) uA.out mO.symm
theorem js {α:Type}(enc:α->List D)(l:List α)(hl:l.length<=1000000000):
 MSpec prog 89 [.d (.sl 5 (l.map enc))] [] (.own 0 1) [.row 96 5 1 (ab (l.map enc))]:=by
 cases l with
 |nil=>
  refine tH (pl:=[]) (ql:=[]) fun ao cap=>?_;cases ao with
  |none=>
   simp only[Yb];refine mj func89 ntmps89 results89 ?_;have z1z:=@_h.{0};refine ft ?_ ?_ ?_ ?_ ?_ ?_ ?_ ?_<;>first|(with_reducible exact True.intro)|intros
   refine jJ (h:=[]) (Xz _) 96 5 ?_;exact(gA 0 0 96 5 [] rfl (bn rfl rfl))
  |some a=>
   simp only[Yb];refine mj func89 ntmps89 results89 ?_;have z1z:=@Zv.{0};refine ft ?_ ?_ ?_ ?_ ?_ ?_ ?_ ?_<;>first|(with_reducible exact True.intro)|intros
   exact bn rfl rfl
 |cons x l=>
  simp only[Xx]at hl;refine mj func89 ntmps89 results89 ?_;have z1z:=@Zv.{0};refine ft ?_ ?_ ?_ ?_ ?_ ?_ ?_ ?_<;>first|(with_reducible exact True.intro)|intros
  all_goals first|omega|exact bn rfl rfl
theorem I6 (p:Lse->Bool)(l:List Lse)(k g fn:Nat)(caps:List PV)(h:List Chunk)(hk:aD h k= .row 96 5 g (ab (l.map bt)))(LB:aq h.length caps=true)(hbh:aH h.length h=true)(hl:l.length<=1000000000)
 (h5:∃ds,cI (bx (aD h) 5) caps=some ds/\∀x∈l,ai prog fn (.agg (bt x)::ds) (.v (.bool (p x))))
 (h6:∀(m:List Lse) (b:Chunk),∃ds,cI (vw (aD (bD h k (.row 96 5 g (ab (m.map bt)))++[b]))) caps=some ds/\∀x∈l,ai prog fn (.agg (bt x)::ds) (.v (.bool (p x)))):
 MSpec prog 169 [.own k g,.clo fn caps] h (.own k (g+1)) (bD h k (.row 96 5 (g+1) (ab ((l.filter fun x=>!p x).map bt)))):=by
 have hlt:k < h.length:=qQ (by rw[hk];simp);obtain⟨ds,Vg,C7⟩:=h5;have rX:=oW mw p l fn ds hl C7;have hle:h.length<=(bD h k (.row 96 5 (g+1) (ab ((l.filter fun x=>!p x).map bt)))).length:=by rw[tF hlt];exact Xz _
 have Ew:aq h.length [.own k g,.clo fn caps]=true:=by simp only[aq,au,hlt,LB,decide_true,Yq]
 unfold cv at rX;cases hf:l.findIdx? p with
 |none=>
  rw[hf]at rX;replace hf:=Xj hf;refine DM ag am func169 rfl ntmps169 results169 aJ hle Ew hbh ?_;refine ft ?_ ?_ ?_ ?_ ?_ ?_ ?_ ?_<;>first|(with_reducible exact True.intro)|intros
  have he:(l.filter fun x=>!p x)=l:=Y5.2 fun x hx=>by
   have:=Yn.1 hf.out x hx;simp[this]
  rw[he];exact gA k g _ _ _ hk (bn rfl rfl)
 |some i0=>
  rw[hf]at rX;have ec:=Cc hf;replace hf:=Xj hf;have a2N:((i0:Int)== -1)=false:=by rw[beq_eq_false_iff_ne];omega
  have ci:=wi i0 aa;obtain⟨ga,gb,gc,gd,ge,gf,gg,gi⟩:=Wu hlt;refine DM ag am func169 rfl ntmps169 results169 aJ hle Ew hbh ?_;have ec:=Xj ec;refine ft ?_ ?_ ?_ ?_ ?_ ?_ ?_ ?_<;>first|(with_reducible exact True.intro)|intros
  refine bQ ag am (fun m e h'=>∃j,j<=l.length/\i0 < j/\m=l.length - j/\e=[(6,.d (.v (.int .i64 j))),(5,.d (.v (.int .i64 (cA p l j).length))),(4,.d (.v (.slice none 0 0))),(1,.clo fn caps),(0,.own k g)]/\h'=bD h k (.row 96 5 g (ab ((iT p l j).map bt)))) (l.length - (i0+1)) _ _ ⟨i0+1,ec.out.1,by omega,rfl,rfl,rfl⟩ ?_ ?_
  ·exact a3V
  ·rintro m e h' ⟨j,hj,hij,rfl,rfl,rfl⟩ C hC;have xT:=xI p l j;have pA:=Kq p l j;by_cases R8:j < l.length
   ·obtain⟨x,hx⟩:∃x,l[j]? =some x:=⟨_,Xk R8⟩;have Oc:(iT p l j)[j]? =some x:=by rw[Kr p l j j xT.1];exact hx
    obtain⟨y,AH⟩:∃y,(iT p l j)[(cA p l j).length]? =some y:=⟨_,Xk aa⟩;have lz:(j:Int) < (l.length:Int):=aa;have cj:=wi j aa;have rl:IntKind.i64.wrap (((cA p l j).length:Int)+1)=(((cA p l j).length+1:Nat):Int):=by rw[IntKind.wrap_i64];omega
    have jV:(cA p l j).length < l.length:=aa;obtain⟨ds2,hd3,hd4⟩:=h6 (iT p l j) (.box 96 ((bt x).map .d));have lg:=hd4 x (Xl hx);have hx:=Xj hx;have bV:=bU bt (iT p l j) (cA p l j).length x;simp only[bt,Xm,Xr]at hd3 lg bV;refine ft ?_ ?_ ?_ ?_ ?_ ?_ ?_ ?_<;>first|(with_reducible exact True.intro)|intros
    ·exact a3N
    ·exact a3O
   ·obtain rfl:j=l.length:=aa;have hm0:iT p l l.length≠[]:=fun e=>by rw[e]at pA;simp at pA;omega
    have hn1:¬ab ((iT p l l.length).map bt)=[]:=by simpa[ab]using hm0
    have Lt:∀z:List PV,(aB (ab ((iT p l l.length).map bt)) (cA p l l.length).length (XY (l.length - (cA p l l.length).length) z)).length=l.length:=fun z=>by
     rw[bw (by simp[aG,pA];omega)];simp[aG,pA]
    have C4:∀z:List PV,¬aB (ab ((iT p l l.length).map bt)) (cA p l l.length).length (XY (l.length - (cA p l l.length).length) z)=[]:=fun z e=>by
     have:=Lt z;rw[e]at this;simp at this;omega
    refine ft ?_ ?_ ?_ ?_ ?_ ?_ ?_ ?_<;>first|(with_reducible exact True.intro)|intros
    have cp:=Ce p l;rw[<-cp,ZI];exact Cf hlt (by simp[pA];omega) (by simpa using hm0) (by simp[pA])
theorem Cz (p:Pol->Bool)(l:List Pol)(k g fn:Nat)(caps:List PV)(h:List Chunk)(hk:aD h k= .row 83 9 g (ab (l.map an)))(LB:aq h.length caps=true)(hbh:aH h.length h=true)(hl:l.length<=1000000000)
 (h5:∃ds,cI (bx (aD h) 5) caps=some ds/\∀x∈l,ai prog fn (.agg (an x)::ds) (.v (.bool (p x))))
 (h6:∀(m:List Pol) (b:Chunk),∃ds,cI (vw (aD (bD h k (.row 83 9 g (ab (m.map an)))++[b]))) caps=some ds/\∀x∈l,ai prog fn (.agg (an x)::ds) (.v (.bool (p x)))):
 MSpec prog 167 [.own k g,.clo fn caps] h (.own k (g+1)) (bD h k (.row 83 9 (g+1) (ab ((l.filter fun x=>!p x).map an)))):=by
 have hlt:k < h.length:=qQ (by rw[hk];simp);obtain⟨ds,Vg,C7⟩:=h5;have rX:=Cq my p l fn ds hl C7;have hle:h.length<=(bD h k (.row 83 9 (g+1) (ab ((l.filter fun x=>!p x).map an)))).length:=by rw[tF hlt];exact Xz _
 have Ew:aq h.length [.own k g,.clo fn caps]=true:=by simp only[aq,au,hlt,LB,decide_true,Yq]
 unfold cv at rX;cases hf:l.findIdx? p with
 |none=>
  rw[hf]at rX;replace hf:=Xj hf;refine DM ag am func167 rfl ntmps167 results167 aJ hle Ew hbh ?_;refine ft ?_ ?_ ?_ ?_ ?_ ?_ ?_ ?_<;>first|(with_reducible exact True.intro)|intros
  have he:(l.filter fun x=>!p x)=l:=Y5.2 fun x hx=>by
   have:=Yn.1 hf.out x hx;simp[this]
  rw[he];exact gA k g _ _ _ hk (bn rfl rfl)
 |some i0=>
  rw[hf]at rX;have ec:=Cc hf;replace hf:=Xj hf;have a2N:((i0:Int)== -1)=false:=by rw[beq_eq_false_iff_ne];omega
  have ci:=wi i0 aa;obtain⟨ga,gb,gc,gd,ge,gf,gg,gi⟩:=Wu hlt;refine DM ag am func167 rfl ntmps167 results167 aJ hle Ew hbh ?_;have ec:=Xj ec;refine ft ?_ ?_ ?_ ?_ ?_ ?_ ?_ ?_<;>first|(with_reducible exact True.intro)|intros
  refine bQ ag am (fun m e h'=>∃j,j<=l.length/\i0 < j/\m=l.length - j/\e=[(6,.d (.v (.int .i64 j))),(5,.d (.v (.int .i64 (cA p l j).length))),(4,.d (.v (.slice none 0 0))),(1,.clo fn caps),(0,.own k g)]/\h'=bD h k (.row 83 9 g (ab ((iT p l j).map an)))) (l.length - (i0+1)) _ _ ⟨i0+1,ec.out.1,by omega,rfl,rfl,rfl⟩ ?_ ?_
  ·exact a3V
  ·rintro m e h' ⟨j,hj,hij,rfl,rfl,rfl⟩ C hC;have xT:=xI p l j;have pA:=Kq p l j;by_cases R8:j < l.length
   ·obtain⟨x,hx⟩:∃x,l[j]? =some x:=⟨_,Xk R8⟩;have Oc:(iT p l j)[j]? =some x:=by rw[Kr p l j j xT.1];exact hx
    obtain⟨y,AH⟩:∃y,(iT p l j)[(cA p l j).length]? =some y:=⟨_,Xk aa⟩;have lz:(j:Int) < (l.length:Int):=aa;have cj:=wi j aa;have rl:IntKind.i64.wrap (((cA p l j).length:Int)+1)=(((cA p l j).length+1:Nat):Int):=by rw[IntKind.wrap_i64];omega
    have jV:(cA p l j).length < l.length:=aa;obtain⟨ds2,hd3,hd4⟩:=h6 (iT p l j) (.box 83 ((an x).map .d));have lg:=hd4 x (Xl hx);have hx:=Xj hx;have bV:=bU an (iT p l j) (cA p l j).length x;simp only[an,Xm,Xr]at hd3 lg bV;refine ft ?_ ?_ ?_ ?_ ?_ ?_ ?_ ?_<;>first|(with_reducible exact True.intro)|intros
    ·exact a3N
    ·exact a3O
   ·obtain rfl:j=l.length:=aa;have hm0:iT p l l.length≠[]:=fun e=>by rw[e]at pA;simp at pA;omega
    have hn1:¬ab ((iT p l l.length).map an)=[]:=by simpa[ab]using hm0
    have Lt:∀z:List PV,(aB (ab ((iT p l l.length).map an)) (cA p l l.length).length (XY (l.length - (cA p l l.length).length) z)).length=l.length:=fun z=>by
     rw[bw (by simp[aG,pA];omega)];simp[aG,pA]
    have C4:∀z:List PV,¬aB (ab ((iT p l l.length).map an)) (cA p l l.length).length (XY (l.length - (cA p l l.length).length) z)=[]:=fun z e=>by
     have:=Lt z;rw[e]at this;simp at this;omega
    refine ft ?_ ?_ ?_ ?_ ?_ ?_ ?_ ?_<;>first|(with_reducible exact True.intro)|intros
    have cp:=Ce p l;rw[<-cp,ZI];exact Cf hlt (by simp[pA];omega) (by simpa using hm0) (by simp[pA])
theorem a4V {p:Prop}(h:p:=by
 have hi:=Cy l.owner;rw[h2]at hi;refine pj func121 ntmps121 results121 ?_;exact bc;all_goals exact aP.refl _):p:=h
def bK (b:Bok)(id:Int):Option Pol:=b.pools.find? fun p=>p.id==id
def o0 (l:List Pol):Prop:=l.Pairwise fun a b=>a.id < b.id
theorem Nf {α:Type}{key:α->Int}{t:Int}{l:List α}(hs:l.Pairwise fun a b=>key a < key b):(tM key t l=true/\∃p,l[j8 key t l]? =some p/\l.find? (fun p=>key p==t)=some p/\key p=t)\/(tM key t l=false/\l.find? (fun p=>key p==t)=none):=by
 have Bu:∀q (hq:q < l.length),q < j8 key t l->key l[q] < t:=by
  intro q hq hlt;have:=List.not_of_lt_findIdx hlt;simp at this;omega
 cases hx:l[j8 key t l]? with
 |none=>
  right;have hb:tM key t l=false:=by unfold tM;rw[hx]
  refine⟨hb,?_⟩;rw[Yr];intro y hy;obtain⟨q,hq,rfl⟩:=X3.1 hy;have bB:l.length<=j8 key t l:=by
   rcases XM (j8 key t l) l.length with h|h
   ·rw[Xk h]at hx;cases hx
   ·exact h
  have:=Bu q hq aa;simp;omega
 |some p=>
  obtain⟨hlt,hp⟩:=Xn.1 hx;have hge:t<=key p:=by
   have:=List.findIdx_getElem (xs:=l) (p:=fun x=>decide (t<=key x)) (w:=hlt);rw[show l[List.findIdx (fun x=>decide (t<=key x)) l]'hlt=p from hp]at this;simpa using this
  by_cases he:key p=t
  ·left;have hb:tM key t l=true:=by unfold tM;rw[hx];simpa using he
   refine⟨hb,p,rfl,?_,he⟩;have jC:p∈l:=Xl hx;cases hf:l.find? (fun p=>key p==t)with
   |none=>exact absurd he (by simpa using Yr.1 hf p jC)
   |some q=>
    have hq1:key q=t:=by simpa using Zs hf
    have qD:=YE hf;obtain⟨i,hi,rfl⟩:=X3.1 qD;rcases Y7 i (j8 key t l)with h|h|h
    ·have:=Bu i hi h;omega
    ·subst h;rw[Xk hlt]at hx;rw[XW.inj hx]
    ·have:=XF.1 hs _ i hlt hi h;rw[hp]at this;omega
  ·right;have hb:tM key t l=false:=by unfold tM;rw[hx];simpa using he
   refine⟨hb,?_⟩;rw[Yr];intro y hy;obtain⟨i,hi,rfl⟩:=X3.1 hy;rcases Y7 i (j8 key t l)with h|h|h
   ·have:=Bu i hi h;simp;omega
   ·subst h;rw[hp];simpa using he
   ·have:=XF.1 hs _ i hlt hi h;rw[hp]at this;simp;omega
theorem I7 (p:Pol)(t:Int):ai prog 234 [.agg (an p),.v (.int .i64 t)] (.v (.int .i64 (eQ p.id t))):=by
 refine pj func234 ntmps234 results234 ?_;have z1z:=od p.id t;exact bc;all_goals exact aP.refl _
def qn (b:Bok)(id:Int):D:=match bK b id with|some p=> .tup [.ept (an p),.v (.bool true)]|none=> .tup [.v (.pointer none),.v (.bool false)]
theorem o3 (b:Bok)(id:Int)(hb:b.pools.length<=1000000000)(hs:o0 b.pools):ai prog 156 [.ept (bq b),.v (.int .i64 id)] (qn b id):=by
 have Vn:=vA my (fun p=>p.id) b.pools id 234 [] hb hs (fun p _=>I7 p id);unfold qn bK;rcases Nf (t:=id) hs with⟨h1,p,h2,h3,-⟩|⟨h1,h2⟩
 ·rw[h1]at Vn;rw[h3];refine pj func156 ntmps156 results156 ?_;exact bc;all_goals exact aP.refl _
 ·rw[h1]at Vn;rw[h2];refine pj func156 ntmps156 results156 ?_;exact bc;all_goals exact aP.refl _
theorem ot (p q:Pfx):([p.at_,p.len]==[q.at_,q.len])=decide (p=q):=by
 rw[Yk];cases p;cases q;simp
def eP (b:Bok)(p:Pol)(l:Lse):Bool:=
 if l.kind==1 then dV l.owner&&(l.till==0)
 else if l.kind==2 then (match bK b l.owner with|some q=>(q.up==p.id)&&(decide (q.root=l.at_)&&(l.till==0))|none=>false)
 else if l.kind==3 then (l.owner==0)&&(decide (l.till>b.tick)&&decide (l.till<=b.tick+1024))else false
theorem Uc (b:Bok)(p:Pol)(l:Lse)(hb:b.pools.length<=1000000000)(hs:o0 b.pools)(ht:0<=b.tick/\b.tick<=1073741824):ai prog 121 [.ept (bq b),.ept (an p),.agg (bt l)] (.v (.bool (eP b p l))):=by
 unfold eP;cases h1:l.kind==1 with
 |true=>
  rw[aj rfl];cases h2:dV l.owner with
  |true=>exact a4V
  |false=>exact a4V
 |false=>
  rw[af ah];cases h2:l.kind==2 with
  |true=>
   rw[aj rfl];have hf:=o3 b l.owner hb hs;unfold qn at hf;cases hq:bK b l.owner with
   |none=>
    rw[hq]at hf;refine pj func121 ntmps121 results121 ?_;exact bc;all_goals exact aP.refl _
   |some q=>
    rw[hq]at hf;have he:=ot q.root l.at_;cases h3:q.up==p.id<;>cases h4:decide (q.root=l.at_)<;>rw[h4]at he;all_goals
     refine pj func121 ntmps121 results121 ?_;exact bc;all_goals simp only[h3,h4,Ys,Bool.false_and,Bool.and_false]
     all_goals exact aP.refl _
  |false=>
   rw[af ah];have hw:IntKind.i64.wrap (b.tick+1024)=b.tick+1024:=by rw[IntKind.wrap_i64];omega
   cases h3:l.kind==3 with
   |false=>
    rw[af ah];refine pj func121 ntmps121 results121 ?_;exact bc;all_goals exact aP.refl _
   |true=>
    rw[aj rfl];cases h4:l.owner==0<;>cases h5:decide (l.till>b.tick);all_goals
     refine pj func121 ntmps121 results121 ?_;exact bc;all_goals exact aP.refl _
def mU (id:Int)(l:Lse):Bool:=(l.kind==2)&&(l.owner==id)
theorem Qk (l:Lse)(p:Pol):ai prog 205 [.agg (bt l),.ept [.ept (an p)]] (.v (.bool (mU p.id l))):=by
 unfold mU;cases h1:l.kind==2;all_goals
  refine pj func205 ntmps205 results205 ?_;exact bc;all_goals exact aP.refl _
theorem a5f {p:Prop}(h:p:=by
 have:=(gz p hp).2.1;unfold iW at this;split at this
 ·cases this
 ·rename_i h;simpa[dD]using h):p:=h
def kr (b:Bok):Nat->Pol->Bool
 |0,p=>p.up==0
 |n+1,p=>(p.up==0)||(match bK b p.up with|some q=>q.leases.any (mU p.id)&&kr b n q|none=>false)
theorem Ng {b:Bok}{p:Pol}(n:Nat)(h:(p.up==0)=true):kr b n p=true:=by cases n<;>simp[kr,h]
theorem Ud (b:Bok)(p:Pol)(hb:b.pools.length<=8)(hs:o0 b.pools)(hl:∀q∈b.pools,q.leases.length<=1000000000):ai prog 118 [.ept (bq b),.ept (an p)] (.v (.bool (kr b b.pools.length p))):=by
 refine pj func118 ntmps118 results118 ?_;refine ap ?_<;>intros;refine bQ ag am (fun m e h=>∃(k:Nat) (q:Pol),k<=b.pools.length/\kr b b.pools.length p=kr b (b.pools.length - k) q/\m=b.pools.length - k/\e=[(12,.d (.v (.int .i64 k))),(11,.d (.v (.int .i64 b.pools.length))),(4,.d (.v (.bool false))),(3,.ptr 0 0),(0,.d (.ept (bq b)))]/\
  h=[.box 194 [.d (.ept (an q))]]) _ _ _ ⟨0,p,XD _,rfl,rfl,rfl,rfl⟩ (wf) ?_
 rintro m e h ⟨k,q,hk,gW,hm,rfl,rfl⟩ CL oH;by_cases hlt:k < b.pools.length
 ·have ed:(k:Int) < (b.pools.length:Int):=aa;have db:=wi k aa;obtain⟨j,hj⟩:∃j,b.pools.length - k=j+1:=⟨b.pools.length - k - 1,by omega⟩;rw[hj]at gW;replace gW:=Xj gW;replace hj:=Xj hj;replace hm:=Xj hm;cases h0:q.up==0 with
  |true=>
   refine ap ?_<;>intros;rw[gW.out,Ng _ h0];exact aP.refl _
  |false=>
   have hf:=o3 b q.up aa hs;unfold qn at hf;cases hq:bK b q.up with
   |none=>
    rw[hq]at hf;refine ap ?_<;>intros;rw[gW.out];simp only[kr,h0,hq,p'];exact aP.refl _
   |some r=>
    rw[hq]at hf;have hr:r∈b.pools:=YE hq;have pK:=sD mw (mU q.id) r.leases 205 [.ept [.ept (an q)]] (hl r hr) (fun x _=>Qk x q);cases ha:r.leases.any (mU q.id)with
    |false=>
     rw[ha]at pK;refine ap ?_<;>intros;rw[gW.out];simp only[kr,h0,hq,ha,p',Bool.false_and];exact aP.refl _
    |true=>
     rw[ha]at pK;refine ap ?_<;>intros;refine oH _ _ _ _ _ ?_ ⟨k+1,r,hlt,?_,rfl,rfl,rfl⟩ (wf)
     ·have:=hm.out;omega
     ·rw[gW.out];simp only[kr,h0,hq,ha,p',Ys];congr 1;have:=hj.out;omega
 ·obtain rfl:k=b.pools.length:=aa;rw[YF]at gW;replace gW:=Xj gW;refine ap ?_<;>intros;rw[gW.out];exact aP.refl _
theorem Ql (b:Bok)(p:Pol)(l:Lse)(hb:b.pools.length<=1000000000)(hs:o0 b.pools)(ht:0<=b.tick/\b.tick<=1073741824):ai prog 120 [.agg (bt l),.ept (bq b),.ept [.ept (an p)]] (.v (.bool (!eP b p l))):=by
 have hl:=Uc b p l hb hs ht;refine pj func120 ntmps120 results120 ?_;exact bc
theorem Qm (p:Pol)(q:Pfx):ai prog 123 [.agg (aS q),.ept [.ept (an p)]] (.v (.bool (p.root.meets q))):=by
 have hm:=qV p.root q;refine pj func123 ntmps123 results123 ?_;exact bc
def eD:Int->List Pol->Bool
 |_,[]=>true
 |last,p::l=>(dV p.id&&(decide (last < p.id)&&((iW p.root (dD p)==0)&&fZ p.rule p.root.len)))&&eD p.id l
def dO (b:Bok):List Pol->List Pfx->Bool
 |[],_=>true
 |p::l,roots=>(kr b b.pools.length p&&p.leases.all (eP b p))&&(if p.up==0 then !(roots.any p.root.meets)&&dO b l (roots++[p.root])else dO b l roots)
def br (b:Bok):Int:=if b.pools.length>8 then 2 else if b.tick < 0\/b.tick>1073741824 then 1 else if eD 0 b.pools&&dO b b.pools []then 0 else 1
theorem lO:∀(l:List Pol) (last:Int),eD last l=true->o0 l/\∀p∈l,last < p.id
 |[],_,_=>⟨List.Pairwise.nil,fun p h=>by simp at h⟩
 |p::l,last,h=>by
  simp only[eD,Xt,decide_eq_true_eq]at h;obtain⟨h1,h2⟩:=lO l p.id h.2;refine⟨YC.2 ⟨fun q hq=>h2 q hq,h1⟩,fun q hq=>?_⟩;rcases X2.1 hq with rfl|hq
  ·exact h.1.2.1
  ·have:=h2 q hq;have:=h.1.2.1;omega
theorem nh:∀(l:List Pol) (last:Int),eD last l=true->∀p∈l,dV p.id=true/\iW p.root (dD p)=0/\fZ p.rule p.root.len=true
 |p::l,last,h,q,hq=>by
  simp only[eD,Xt,decide_eq_true_eq,beq_iff_eq]at h;rcases X2.1 hq with rfl|hq
  ·exact⟨h.1.1,h.1.2.2.1,h.1.2.2.2⟩
  ·exact nh l p.id h.2 q hq
theorem ku {α:Type}{l:List α}{k:Nat}{x:α}(h:l[k]? =some x):l.drop k=x::l.drop (k+1):=by
 obtain⟨hk,rfl⟩:=Xn.1 h;exact YR hk
theorem ou (b:Bok)(hz:∀p∈b.pools,p.leases.length<=3518437208882):ai prog 58 [.agg (bq b)] (.v (.int .i64 (br b))):=by
 by_cases h8:b.pools.length>8
 ·have h8I:decide ((b.pools.length:Int)>8)=true:=aK;have hr:br b=2:=by simp[br,h8]
  rw[hr];refine pj func58 ntmps58 results58 ?_;exact bc
 ·have h8I:decide ((b.pools.length:Int)>8)=false:=aK;by_cases jd:b.tick < 0\/b.tick>1073741824
  ·have hr:br b=1:=by simp[br,h8,jd]
   rw[hr];rcases jd with h|h
   ·have h1:decide (b.tick < 0)=true:=by simpa using h
    refine pj func58 ntmps58 results58 ?_;exact bc
   ·have h1:decide (b.tick < 0)=false:=aK;have h2:decide (b.tick>1073741824)=true:=by simpa using h
    refine pj func58 ntmps58 results58 ?_;exact bc
  ·have h1:decide (b.tick < 0)=false:=aK;have h2:decide (b.tick>1073741824)=false:=aK;have ht:0<=b.tick/\b.tick<=1073741824:=aa;have hr:br b=if eD 0 b.pools&&dO b b.pools []then 0 else 1:=by simp only[br,h8,jd,if_false]
   rw[hr];replace hr:=Xj hr;replace ht:=Xj ht;refine pj func58 ntmps58 results58 ?_;refine ap ?_<;>intros;refine bQ ag am (fun m e h=>∃(k:Nat) (last:Int),k<=b.pools.length/\eD 0 b.pools=eD last (b.pools.drop k)/\m=b.pools.length - k/\e=[(24,.d (.v (.int .i64 k))),(23,.d (.v (.int .i64 b.pools.length))),(3,.d (.v (.int .i64 last))),(2,.d (.v (.int .i64 0))),(1,.ptr 0 0)]/\
    h=[.box 30 ((bq b).map .d)]) _ _ _ ⟨0,0,XD _,rfl,rfl,rfl,rfl⟩ (wf) ?_
   rintro m e h ⟨k,last,hk,gW,hm,rfl,rfl⟩ C hC;by_cases hlt:k < b.pools.length
   ·have ed:(k:Int) < (b.pools.length:Int):=aa;have db:=wi k aa;obtain⟨p,hp⟩:∃p,b.pools[k]? =some p:=⟨_,Xk hlt⟩;have pH:p∈b.pools:=Xl hp;rw[ku hp]at gW;simp only[eD]at gW;have hi:=Cy p.id;have jd:=KK p (hz p pH);have V4:=Nd p.root (dD p);have By:=I5 p.rule p.root;replace gW:=Xj gW;replace hm:=Xj hm;repeat' (first|(with_reducible refine And.intro ?_ ?_)|(with_reducible refine oS (fun _=>?_) (fun _=>?_))|(with_reducible refine ey (fun _=>?_) (fun _=>?_))|(with_reducible refine jL aJ)|simp -dsimp only[go_sem,seval, *,bq,an,ed,db,hp]|((with_reducible refine jM ?_);simp -dsimp only[go_sem,seval,bq,an,ed,db,hp];first|refine eA (by first|assumption|exact hi|exact jd|exact V4|exact By) ny ?_|(refine ez gT ?_ ?_ ?_;(solve|(repeat(first|exact aP.refl _|exact aP.nil _|(refine aP.tup ?_)|(refine aP.agg ?_ rfl)|exact trivial|(refine And.intro ?_ ?_))));(solve|exact .inl rfl|exact .inr rfl)))|fail|omega|exact decide_eq_true aa|exact aP.refl _)
    case' pos.refine_1.refine_2.refine_2.refine_2.refine_1=>
     rename_i q1 q2 q3 q4;refine hC _ _ _ _ _ ?_ ⟨k+1,p.id,hlt,?_,rfl,rfl,rfl⟩ (wf)
     ·have:=hm.out;omega
     ·rw[gW.out];have e1:decide (last < p.id)=true:=by simpa using q2
      have e2:(iW p.root (dD p)==0)=true:=by simpa using q3
      rw[q1,e1,e2,q4];rfl
    all_goals
     have hf:eD 0 b.pools=false:=by
      rw[gW.out];clear hC hi jd V4 By hz gW hm hr ht;grind
     rw[hf];exact aP.refl _
   ·obtain rfl:k=b.pools.length:=aa;rw[Zc]at gW;have hf:eD 0 b.pools=true:=by rw[gW];rfl
    obtain⟨Ss,-⟩:=lO _ _ hf;have gz:=nh _ _ hf;have pI:∀p∈b.pools,p.leases.length<=32:=fun p hp=>a5f
    rw[hf];replace hf:=Xj hf;replace gW:=Xj gW;replace hm:=Xj hm;replace gz:=Xj gz;refine ap ?_<;>intros;refine bQ ag am (fun m e h=>∃(k g:Nat) (roots:List Pfx),k<=b.pools.length/\dO b b.pools []=dO b (b.pools.drop k) roots/\roots.length<=k/\m=b.pools.length - k/\e=[(71,.d (.v (.int .i64 k))),(70,.d (.v (.int .i64 b.pools.length))),(6,.own 1 g),(2,.d (.v (.int .i64 0))),(1,.ptr 0 0)]/\
     h=[.box 30 ((bq b).map .d),.row 23 2 g (ab (roots.map aS))]) _ _ _ ⟨0,0,[],XD _,rfl,XD _,rfl,rfl,rfl⟩ ((cZ (XD _) 6 23 2 rfl).trans (wf)) ?_
    rintro m e h ⟨k,g,roots,hk,xC,C5,hm,rfl,rfl⟩ C hC;by_cases hlt:k < b.pools.length
    ·have ed:(k:Int) < (b.pools.length:Int):=aa;have db:=wi k aa;obtain⟨p,hp⟩:∃p,b.pools[k]? =some p:=⟨_,Xk hlt⟩;have pH:p∈b.pools:=Xl hp;rw[ku hp]at xC;simp only[dO]at xC;have iA:=Ud b p aa Ss (fun q hq=>by have:=pI q hq;omega);have gU:=sD mw (fun l=>!eP b p l) p.leases 120 [.ept (bq b),.ept [.ept (an p)]] (by have:=pI p pH;omega) (fun l _=>Ql b p l aa Ss ht.out);have hcp:=wD FJ p.root.meets roots 123 [.ept [.ept (an p)]] aa (fun q _=>Qm p q);have xz:(roots.length+1)*16<=140737488355328:=aa;replace xC:=Xj xC;replace hm:=Xj hm;have bo:p.leases.all (eP b p)=!(p.leases.any fun l=>!eP b p l):=by simp[List.all_eq_not_any_not]
     replace bo:=Xj bo;repeat' (first|(with_reducible refine And.intro ?_ ?_)|(with_reducible refine oS (fun _=>?_) (fun _=>?_))|(with_reducible refine ey (fun _=>?_) (fun _=>?_))|(with_reducible refine jL aJ)|simp -dsimp only[go_sem,seval, *,bq,an,ed,db,hp]|((with_reducible refine jM ?_);simp -dsimp only[go_sem,seval,bq,an,ed,db,hp];first|refine eA (by first|assumption|exact iA|exact gU|exact hcp) ny ?_|(refine ez gT ?_ ?_ ?_;(solve|(repeat(first|exact aP.refl _|exact aP.nil _|(refine aP.tup ?_)|(refine aP.agg ?_ rfl)|exact trivial|(refine And.intro ?_ ?_))));(solve|exact .inl rfl|exact .inr rfl)))|fail|omega|exact decide_eq_true aa|exact aP.refl _)
     case' pos.refine_1.refine_2.refine_1.refine_2=>
      rename_i q1 q2 q3 q4;refine hC _ _ _ _ _ ?_ ⟨k+1,g+1,roots++[p.root],hlt,?_,by simp;omega,rfl,rfl,rfl⟩ (wf (hh:=(by simp only[bq,Xo,Xm,Xr,aS];rfl)))
      ·have:=hm.out;omega
      ·rw[xC.out,q1,bo.out,q2,aj q3,q4];rfl
     case' pos.refine_1.refine_2.refine_2=>
      rename_i q1 q2 q3;refine hC _ _ _ _ _ ?_ ⟨k+1,g,roots,hlt,?_,by omega,rfl,rfl,rfl⟩ (wf)
      ·have:=hm.out;omega
      ·rw[xC.out,q1,bo.out,q2,af (by rw[q3];simp)];rfl
     all_goals
      have EE:dO b b.pools []=false:=by
       rw[xC.out,bo.out];clear hC iA gU hcp hz xC hm hr ht bo;grind
      rw[EE];exact aP.refl _
    ·obtain rfl:k=b.pools.length:=aa;rw[Zc]at xC;replace xC:=Xj xC;refine ap ?_<;>intros;rw[xC.out];exact aP.refl _
theorem a4p {p:Prop}(h:p:=by
 rw[<-ht,Zu]at hq;split at hq
 ·rwa [X6]at hq
 ·cases hq):p:=h
theorem a4v {p:Prop}(h:p:=by
 refine⟨?_,?_,?_,?_,fun b hb _=>?_⟩
 ·rw[s6,HW];rfl
 ·rw[s6,HW];rfl
 ·rw[s6,HW];rfl
 ·rw[s6,HW];simp[ZU]
 ·rw[setRow_other _ _ _ _ aa];exact AL b aa):p:=h
theorem a4w {p:Prop}(h:p:=by
 unfold Oper.wp;simp only[execOp,ho,resolve,invoke,builtin,Sem.run_bind,Sem.run_pure,Result.andThen_ok,List.map_toArray,Xm,Xr,hd,hs,hr];exact hK _ _ h):p:=h
theorem a4y {p:Prop}(h:p:=by
 obtain⟨u,hu⟩:∃u,ys[0]? =some u:=⟨_,Xk aa⟩;have:=HB 0 u hu;rw[hB];rcases XM vb w.heap.size with h|h
 ·exact h
 ·simp[YU,Yo h]at this):p:=h
theorem a5c {p:Prop}(h:p:=by
 funext k;rw[tn];cases k with
 |zero=>rfl
 |succ k=>rfl):p:=h
theorem a5l {p:Prop}(h:p:=by
 rw[HW];simp only[World.alloc,Array.getElem?_push];rw[af (by show ¬b=w.heap.size;omega)];rfl):p:=h
theorem a6t {p:Prop}(h:p:=by
 rw[Vp];simp[Builtin.zeroCells,Value.cells];omega):p:=h
section
open Go.Proofs
theorem fj {P:Program}{w:World}{dT sT e:TypeId}{ie:TypeInfo}{sz g o dl dc sl sc:Nat}{a:Addr}{cur:Array Value}{E:TypeId}(ys:List Value)
 (ht:P.underlying dT=some (.slice e)) (hi:P.info? e=some ie) (cL:ie.size=sz) (hn:ys.length=Z4 sl dl*sz) (uw:∀j u,ys[j]? =some u->w.cell? (a.add j)=some u) (h1:∀u∈ys,u.oneCell'=true)
 (hh:w.heap[g]? =some (.cells cur E (0,0))) (ho:o+ys.length<=cur.size) (ty:TypeId):
 (Builtin.copy_ #[dT,sT] ty #[.slice (some ⟨g,o,none⟩) dl dc,.slice (some a) sl sc]).run P w= .ok (goInt (Z4 sl dl)) (w.setRow g (aB cur.toList o ys).toArray):=by
 have hfc:=run_firstCells_some (P:=P) w sz (Z4 sl dl) a sl sc ys hn uw;have ec:=run_storeCells_at P g o E ys 0 cur w hh aK h1;have rz:(storeCells ⟨g,o,none⟩ ys).run P w= .ok () (w.setRow g (aB cur.toList o ys).toArray):=by
  rw[ec];simp[aB]
 simp[Builtin.copy_,run_underlying ht,Builtin.lenOf,sizeOf,typeInfo,hi,cL,hfc,rz]
theorem kI {P:Program}(w:World){ops:Array Oper}{rest:List Oper}{o:Oper}{a:Act}{Q:Exit->Act->World->Prop}(hgd:o.guard=none)(d s:Operand)(t t':TypeId)
 (ho:o.op= .call {callee:= .builtin .copy,args:=#[d,s],argTypes:=#[t,t']}) (v u:Value) (hd:a.eval d=v) (hs:a.eval s=u) {v':Value}{w':World}
 (hr:(Builtin.copy_ #[t,t'] o.type #[v,u]).run P w= .ok v' w') (h:wpList P ops Q rest (a.put o.dst v') w'):wpList P ops Q (o::rest) a w:=
 wpList_plain hgd fun _ hK=>a4w
theorem ni {P:Program}{ops:Array Oper}{o:Oper}{a:Act}{w:World}{K:Act->World->Prop}{Q:Exit->Act->World->Prop}{E:Prop}(hg:o.guard=none)(d x:Operand)(dT sT:TypeId)
 (mP:o.op=Op.call {callee:=Callee.builtin Builtin.copy,args:=#[d,x],argTypes:=#[dT,sT]}) (v u:Value) (hd:a.eval d=v) (hx:a.eval x=u) {v':Value}{w':World}
 (hr:(Builtin.copy_ #[dT,sT] o.type #[v,u]).run P w= .ok v' w') (hK:K (a.put o.dst v') w'):if Region.wanted o (yielded ops a.tmps)=true then Oper.wp P o a w K Q else E:=by
 have hw:Region.wanted o (yielded ops a.tmps)=true:=by simp[Region.wanted,hg]
 rw[aj hw];unfold Oper.wp;simp only[execOp,mP,resolve,invoke,builtin,Sem.run_bind,Sem.run_pure,Result.andThen_ok,List.map_toArray,Xm,Xr,hd,hx,hr];exact hK
theorem rQ {P:Program}(w:World){ops:Array Oper}{rest:List Oper}{o:Oper}{a:Act}{Q:Exit->Act->World->Prop}(hgd:o.guard=none)(d s:Operand)(t t':TypeId)
 (ho:o.op= .call {callee:= .builtin .append,args:=#[d,s],argTypes:=#[t,t']}) (v u:Value) (hd:a.eval d=v) (hs:a.eval s=u) {v':Value}{w':World}
 (hr:(Builtin.append_ #[t,t'] o.type #[v,u]).run P w= .ok v' w') (h:wpList P ops Q rest (a.put o.dst v') w'):wpList P ops Q (o::rest) a w:=
 wpList_plain hgd fun _ hK=>a4w
theorem ow {P:Program}(w:World)(tS tR e:TypeId)(ht:P.underlying tS=some (.slice e))(size:Nat)(hz:∀w,(Go.sizeOf e).run P w= .ok size w)(a b:Addr)(la ca lb cb:Nat)(bH:a.block≠b.block)(sA:TypeId × Nat)(Db:w.shape? a.block=some sA)(OC:sA.2≠0)
 (cur:Array Value) (E:TypeId) (hb:w.heap[b.block]? =some (.cells cur E (0,0))) (hc:cur.size≠0):
 (Extern.SlicesOverlaps.overlaps #[tS,tS] #[tR] #[.slice (some a) la ca,.slice (some b) lb cb]).run P w= .ok (.bool false) w:=by
 have hnb:(a.block !=b.block)=true:=by simpa using bH
 have a2O:(a.block==b.block)=false:=by simpa using bH
 have rU:w.shape? b.block=some (E,cur.size):=by simp[World.shape?,hb]
 have lw:∀o,w.frozen? ⟨b.block,o,none⟩=false:=fun o=>by simp[World.frozen?,hb]
 have a2P:w.frozen? b=false:=by simp[World.frozen?,hb]
 obtain⟨k,hk⟩:∃k,cur.size=k+1:=⟨cur.size - 1,by omega⟩;rw[hk]at rU;change Sem.run P (α:=Value) (do
  let some t:=(#[tS,tS]:Array TypeId)[0]? |stuck "slices.overlaps: no parameter types"
  let .slice elem <-underlying t|stuck "slices.overlaps: slice type expected"
  let size <-sizeOf elem
  match (some a:Option Addr),(some b:Option Addr)with
  |some a,some b=>
   if la=0\/lb=0\/size=0 then pure (Value.bool false)
   else if a.block !=b.block&&(<-frozen a)&&(<-frozen b)then unsupported .addressObserved
   else do
    if a.block !=b.block then do
     noView a;noView b
     if <-mayBeOne a b then return Value.bool ((<-choose (.extern "sameAddr.stringBytes" 2))==1)
    pure (Value.bool (a.block==b.block&&a.off < b.off+lb*size&&b.off < a.off+la*size))
  |_,_=>pure (Value.bool false)) w=_
 by_cases h0:la=0\/lb=0\/size=0
 ·simp[run_underlying ht,hz,h0]
 ·obtain⟨tA,nA⟩:=sA;obtain⟨q,rfl⟩:∃q,nA=q+1:=⟨nA - 1,by simp at OC;omega⟩;cases lA:w.frozen? a<;>cases a2Q:w.frozen? ⟨a.block,q+1,none⟩<;>
   simp[run_underlying ht,hz,h0,hnb,a2O,frozen,noView,viewAt,mayBeOne,stringish,shape,Sem.run,Db,rU,lA,a2Q,lw,a2P]
def DX (w:World)(E g sz n:Nat)(zs:List Value)(e:Ending)(w':World):Prop:=
 ∃(G:Nat) (R:List Value),n+1<=G/\G<=9223372036854775807/\R.length=G*sz/\R.take ((n+1)*sz)=zs/\e= .returned (.slice (some ⟨w.heap.size,0,none⟩) (n+1) G)/\OneB w w' (some g)/\w'.heap[w.heap.size]? =some (.cells R.toArray E (0,0))
theorem ox {w:World}{g:Nat}{cur:Array Value}{E:TypeId}(hh:w.heap[g]? =some (.cells cur E (0,0)))(o:Nat):w.cell? ⟨g,o,none⟩=cur[o]? :=by
 simp[YU,hh]
def WF (w:World)(E sz g n:Nat)(zs:List Value)(e:Ending)(w':World):Prop:=
 ∃v',e= .returned v'/\OwnV w' E sz v' n zs/\OneB w w' (some g)/\(di v'=some g\/∀b,di v'=some b->w.heap.size<=b)
theorem wK {w:World}{b o:Nat}{u:Value}(h:w.cell? ⟨b,o,none⟩=some u):∃sA,w.shape? b=some sA/\sA.2≠0:=by
 cases hb:w.heap[b]? with
 |none=>simp[YU,hb]at h
 |some ob=>
  cases ob with
  |cells c e f=>
   have h':c[o]? =some u:=by simpa[YU,hb]using h
   have:=(Yz.1 h').1;exact⟨(e,c.size),by simp[World.shape?,hb],by simp only;omega⟩
  |_=>simp[YU,hb]at h
theorem Qn {P:Program}{f E sz g i:Nat}{rows:List (List D)}{x:List D}(Vo:yp P f)(AA:0 < sz)(hi:i < rows.length)
 (raw:∀(w:World) (gb cap vb vo vc:Nat) (cur:Array Value) (xs ys:List Value),w.heap[gb]? =some (.cells cur E (0,0))->cap<=maxLen->rows.length<=cap->cur.size=cap*sz->xs.length=rows.length*sz->cur.toList.take (rows.length*sz)=xs->(∀u∈xs,u.oneCell'=true)->
  ys.length=sz->(∀u∈ys,u.oneCell'=true)->vb≠gb->(∀j u,ys[j]? =some u->w.cell? ⟨vb,vo+j,none⟩=some u)->
  Calls P f #[.slice (some ⟨gb,0,none⟩) rows.length cap,.int .i64 i,.slice (some ⟨vb,vo,none⟩) 1 vc] w (WF w E sz gb (rows.length+1) (xs.take (i*sz)++ys++xs.drop (i*sz)))):
 MSpec P f [.own 0 g,.d (.v (.int .i64 i)),.d (.sl sz [x])] [.row E sz g (ab rows)] (.own 0 (g+1)) [.row E sz (g+1) (ab (rows.take i++x::rows.drop i))]:=by
 refine⟨Vo,Xz _,by simp[aq,au],by simp[aH,aR,aC],fun X hP hn hm w c vs hr mL=>?_⟩;have bB:=mL.1;match vs,bB with
 |[v0,v1,v2],_=>
  have r0:=mL.2 0 _ v0 rfl rfl;have r1:=cn (mL.2 1 _ v1 rfl rfl);have r2:=cn (mL.2 2 _ v2 rfl rfl);have bH:ab rows≠[]:=fun e=>by
   have:rows.length=0:=by rw[<-aG rows,e];rfl
   omega
  have bp:=hr.chunk 0;cases r0 with
  |own _ _ _ ep h1=>
   obtain⟨gb,cap,rfl⟩:=nR bp ep bH;obtain⟨cur,xs,q1,q2,q3,q4,q5,q6,q7,q8,q9,q10,q11⟩:=eH bp ep bH;have St:=bI.one q2 (fun d hd=>by obtain⟨r,hr,hd⟩:=C'.1 hd;exact q6 r hr d hd);rw[aG]at q3 q4 q8 q10 ep ⊢;cases r1;have hMg:c.M gb:=(hr.mu gb).2 (.inr ⟨0,by
    have vU:0 < cap:=aa;simp only[bS,aD,Cx.block,ep,Y0];exact cR vU⟩)
   have Ov:cur.toList.take (rows.length*sz)=xs:=by
    apply Yj;intro j;by_cases hj:j < rows.length*sz
    ·rw[XP hj,X6,q4 j hj]
    ·rw[XR (by rw[Xp];omega),XR aa]
   cases r2 with
   |sl _ _ vb vo vc ff hM hb hc' hm' hr' h1' ck bC=>
    obtain⟨ys,y1,-,y2,y3,y4,y5,y6⟩:=ym (w:=w) AA (RepD.sl (M:=c.M) sz [x] vb vo vc ff hM hb hc' hm' hr' h1' ck bC);have y1':ys.length=sz:=by simpa using y1
    have jW:=raw w gb cap vb vo vc cur xs ys q1 q9 q10 q11 q3 Ov St y1' y4 (fun e=>hM (e ▸ hMg)) (fun j u hj=>by have:=y3 j u hj;rwa [Addr.add_lit]at this);refine jW.mono fun e w' ⟨v',he,bj,dL,kG⟩=>?_;have J1:∀r∈ab (rows.take i++x::rows.drop i),r.length=sz:=fun r hr=>by
     obtain⟨q,hq,rfl⟩:=jo hr;rw[XB];rcases X0.1 hq with h|h
     ·have:=q5 (q.map .d) (XN.2 ⟨q,Yd h,rfl⟩);simpa using this
     ·rcases X2.1 h with rfl|h
      ·exact y5 _ ah
      ·have:=q5 (q.map .d) (XN.2 ⟨q,Yc h,rfl⟩);simpa using this
    have a0w:∀r∈ab (rows.take i++x::rows.drop i),∀d∈r,d.one=true:=fun r hr d hd=>by
     obtain⟨q,hq,rfl⟩:=jo hr;rcases X0.1 hq with h|h
     ·exact q6 (q.map .d) (XN.2 ⟨q,Yd h,rfl⟩) d hd
     ·rcases X2.1 h with rfl|h
      ·obtain⟨y,hy,rfl⟩:=XN.1 hd;exact y6 _ ah y hy
      ·exact q6 (q.map .d) (XN.2 ⟨q,Yc h,rfl⟩) d hd
    have hflat:(ab (rows.take i++x::rows.drop i)).flatten=((ab rows).flatten.take (i*sz))++x.map .d++((ab rows).flatten.drop (i*sz)):=by
     rw[<-jG q5,<-lH q5];simp only[ab,Xo,Xm,_b,YL,ZI,List.map_drop,XV]
    have qE:bI c w (ab (rows.take i++x::rows.drop i)).flatten (xs.take (i*sz)++ys++xs.drop (i*sz)):=by
     rw[hflat];refine uP (uP ?_ ?_) ?_
     ·have:=q2.part 0 (i*sz);simpa using this
     ·have:=qN y2;simpa using this
     ·have:=q2.part (i*sz) xs.length;rw[XG (by rw[XS,q2.1];omega),XG (by rw[XS];omega)]at this;exact this
    have vU:0 < cap:=aa;obtain⟨c',s1,s2⟩:=hr.set_row (k:=0) (rows':=ab (rows.take i++x::rows.drop i)) (v':=v') rfl ep (by rw[cR vU];exact dL) (by
     have:(ab (rows.take i++x::rows.drop i)).length=rows.length+1:=by rw[aG,Xv,Xp,Xx,XS];omega
     rw[this];exact bj) (by rw[cR vU];exact kG) qE J1 a0w
    have oE:cH [(0,Chunk.row E sz (g+1) (ab (rows.take i++x::rows.drop i)))] (bS [] [.row E sz g (ab rows)]).heap=aD [.row E sz (g+1) (ab (rows.take i++x::rows.drop i))]:=a5c
    rw[oE]at s1;exact⟨v',c',he,s2,s1⟩
theorem Gs {sz n i:Nat}{cur:List Value}{xs ys:List Value}(hn:n < i+1+n)(hi:i < n)(hc:(n+1)*sz<=cur.length)(hl:xs.length=n*sz)(uv:ys.length=sz)(ht:cur.take (n*sz)=xs):
 (aB (aB cur ((i+1)*sz) (xs.drop (i*sz))) (i*sz) ys).take ((n+1)*sz)=xs.take (i*sz)++ys++xs.drop (i*sz)/\(aB (aB cur ((i+1)*sz) (xs.drop (i*sz))) (i*sz) ys).length=cur.length:=by
 have h1:i*sz<=n*sz:=Yt sz aa;have h2:(i+1)*sz=i*sz+sz:=YP i sz;have h3:(n+1)*sz=n*sz+sz:=YP n sz;have sZ:(xs.drop (i*sz)).length=n*sz - i*sz:=by rw[XS,hl]
 have hA:(aB cur ((i+1)*sz) (xs.drop (i*sz))).length=cur.length:=bw aa;have hB:(aB (aB cur ((i+1)*sz) (xs.drop (i*sz))) (i*sz) ys).length=cur.length:=by rw[bw aa];exact hA
 refine⟨?_,hB⟩;apply Yj;intro q;by_cases hq:q < (n+1)*sz
 ·rw[XP hq,jn aa,jn aa];by_cases c1:q < i*sz
  ·rw[af aa,af aa,XV,X5 (by rw[Xp];omega),XP c1,<-ht,XP aa]
  ·by_cases c2:q < i*sz+sz
   ·rw[aj aa,XV,XH (by rw[Xp];omega),X5 (by rw[Xp];omega),Xp];congr 1;omega
   ·rw[af aa,aj aa,XH (by rw[Xv,Xp];omega)];congr 1;rw[Xv,Xp];omega
 ·rw[XR (by rw[Xp];omega),XR (by simp only[Xv,Xp,sZ];omega)]
theorem qB:(prog.info? 96).map (fun i=>(i.zero,i.size,i.bytes))=some (some (.agg #[.int .i64 0,.int .i64 0,.int .i64 0,.int .i64 0,.int .i64 0]),5,40):=aJ
theorem zq (g cap n i vb vo vc:Nat)(cur:Array Value)(xs ys:List Value)(w:World)(hh:w.heap[g]? =some (.cells cur 96 (0,0)))(hm:cap<=9223372036854775807)(hs:cur.size=cap*5)(hl:xs.length=n*5)(ht:cur.toList.take (n*5)=xs)
 (nq:∀u∈xs,u.oneCell'=true) (hi:i < n) (jD:n+1<=cap) (uv:ys.length=5) (Vc:∀u∈ys,u.oneCell'=true) (R3:vb≠g) (HB:∀j u,ys[j]? =some u->w.cell? ⟨vb,vo+j,none⟩=some u)
 (sA:TypeId × Nat) (Db:w.shape? vb=some sA) (OC:sA.2≠0):
 Calls prog 241 #[.slice (some ⟨g,0,none⟩) n cap,.int .i64 i,.slice (some ⟨vb,vo,none⟩) 1 vc] w fun e w'=>
  e= .returned (.slice (some ⟨g,0,none⟩) (n+1) cap)/\w'=(w.drew.setRow g (aB cur.toList ((i+1)*5) (xs.drop (i*5))).toArray).setRow g (aB (aB cur.toList ((i+1)*5) (xs.drop (i*5))) (i*5) ys).toArray:=by
 obtain⟨i0,mZ,vT,mW,rT⟩:=info_parts qB;have am:prog.follows .mixedOrders=true:=aJ;have pJ:(i:Int)+1=((i+1:Nat):Int):=aa;obtain⟨j,hj⟩:∃j,j=i+1:=⟨_,rfl⟩;obtain⟨m,Ok⟩:∃m,m=n+1:=⟨_,rfl⟩;have cL:∀w,(sizeOf 96).run prog w= .ok 5 w:=fun w=>by simp[sizeOf,typeInfo,mZ,mW]
 have ep:∀lb cb,(callFunc 281 #[.slice (some ⟨vb,vo,none⟩) 1 vc,.slice (some ⟨g,j*5,none⟩) lb cb]).run prog w= .ok (.value (.bool false)) w:=fun lb cb=>by
  rw[run_callFunc_extern (fn:=f281) aJ aJ aJ aJ (e:=Extern.SlicesOverlaps.overlaps #[81,81] #[4]) aJ,
   ow w 81 4 96 underlying81 5 cL ⟨vb,vo,none⟩ ⟨g,j*5,none⟩ 1 vc lb cb R3 sA Db OC cur 96 hh aa]
  rfl
 have sZ:(xs.drop (i*5)).length=(n - i)*5:=by rw[XS,hl];omega
 have lg:∀q u,xs[q]? =some u->cur[q]? =some u:=fun q u hq=>a4p
 obtain⟨C1,Bz⟩:∃C1:Array Value,C1=(aB cur.toList (j*5) (xs.drop (i*5))).toArray:=⟨_,rfl⟩;have wd:C1.size=cap*5:=by rw[Bz,YG,bw aK];simpa using hs
 obtain⟨W1,s6⟩:∃W1,W1=w.drew.setRow g C1:=⟨_,rfl⟩;have J2:∀ty dc sc,(Builtin.copy_ #[81,81] ty #[.slice (some ⟨g,j*5,none⟩) (m - j) dc,.slice (some ⟨g,i*5,none⟩) (m - i) sc]).run prog w.drew= .ok (goInt (Z4 (m - i) (m - j))) W1:=fun ty dc sc=>by
  rw[s6,Bz];exact fj (e:=96) (sz:=5) (xs.drop (i*5)) underlying81 mZ mW (by rw[sZ,show Z4 (m - i) (m - j)=n - i from (by simp only[P'];split<;>omega)]) (fun q u hq=>by
   rw[Addr.add_lit,ox (w:=w.drew) hh];rw[Yl]at hq;have:=lg _ u hq;rw[<-this]) (fun u hu=>nq u (Yc hu)) (w:=w.drew) hh (by rw[sZ,hs];omega) ty
 have AD:W1.heap[g]? =some (.cells C1 96 (0,0)):=by rw[s6];exact setRow_heap _ g _ _ _ _ hh
 have J3:∀(W:World),W=W1->∀ty dc,(Builtin.copy_ #[81,81] ty #[.slice (some ⟨g,i*5,none⟩) (m - i) dc,.slice (some ⟨vb,vo,none⟩) 1 vc]).run prog W= .ok (goInt (Z4 1 (m - i))) (W1.setRow g (aB C1.toList (i*5) ys).toArray):=fun W hW ty dc=>by
  subst hW;exact fj (e:=96) (sz:=5) ys underlying81 mZ mW (by rw[uv,show Z4 1 (m - i)=1 from (by simp only[P'];split<;>omega)]) (fun q u hq=>by
   rw[Addr.add_lit,s6];have:=HB q u hq;rw[<-this];exact Zw (a:=⟨vb,vo+q,none⟩) (by rw[setRow_other _ _ _ _ R3];rfl)) Vc AD (by rw[uv,wd];omega) ty
 have ci:IntKind.i64.wrap ((i:Int)+1)=(j:Int):=by rw[IntKind.wrap_i64];omega
 have cj:IntKind.i64.wrap ((n:Int)+1)=(m:Int):=by rw[IntKind.wrap_i64];omega
 have cp:Hid (W1.setRow g (aB C1.toList (i*5) ys).toArray=(w.drew.setRow g (aB cur.toList ((i+1)*5) (xs.drop (i*5))).toArray).setRow g (aB (aB cur.toList ((i+1)*5) (xs.drop (i*5))) (i*5) ys).toArray):=by
  show W1.setRow g (aB C1.toList (i*5) ys).toArray=_;rw[s6,Bz,hj]
 have a0x:¬((i:Int)=(n:Int)):=aa;have j7:i<=n:=aa;have iO:¬(cap=j):=aa;have VY:¬(cap=i):=aa;have hb4:j<=m:=aa;have hb5:i<=m:=aa;have hb6:m<=cap:=aa;have hb7:¬((cap:Int) < (m:Int)):=aa;rw[<-Ok];have Oz:=Xj hj;have iQ:=Xj Ok;have hW:=Xj s6;have hC:=Xj Bz;clear hj Ok s6 Bz ht hl hs uv wd sZ lg pJ AD vT mW rT hh;go_enter func241,ntmps241
 go_wp2_with (simp only[ep])
 go_region_law_o (refine ni rfl _ _ 81 81 rfl _ _ (by simp[Act.eval,Act.put]) (by simp[Act.eval,Act.put]) (J2 _ _ _) ?_)
 go_wp2_with (at_builtin;refine kI _ rfl _ _ 81 81 rfl _ _ rfl rfl (J3 _ rfl _ _) ?_)
 go_ret
 exact⟨rfl,cp.out⟩
theorem zr (g cap n i vb vo vc:Nat)(cur:Array Value)(xs ys:List Value)(w:World)(hh:w.heap[g]? =some (.cells cur 96 (0,0)))(hm:cap<=1000000000)(Ls:n<=cap)(hs:cur.size=cap*5)(hl:xs.length=n*5)(ht:cur.toList.take (n*5)=xs)
 (nq:∀u∈xs,u.oneCell'=true) (hi:i < n) (jD:¬n+1<=cap) (uv:ys.length=5) (Vc:∀u∈ys,u.oneCell'=true) (HB:∀j u,ys[j]? =some u->w.cell? ⟨vb,vo+j,none⟩=some u):
 Calls prog 241 #[.slice (some ⟨g,0,none⟩) n cap,.int .i64 i,.slice (some ⟨vb,vo,none⟩) 1 vc] w (DX w 96 g 5 n (xs.take (i*5)++ys++xs.drop (i*5))):=by
 obtain⟨i0,mZ,vT,mW,rT⟩:=info_parts qB;have am:prog.follows .mixedOrders=true:=aJ;obtain⟨j,hj⟩:∃j,j=i+1:=⟨_,rfl⟩;obtain⟨m,Ok⟩:∃m,m=n+1:=⟨_,rfl⟩;obtain⟨k,hk⟩:∃k,k=m - i:=⟨_,rfl⟩;obtain⟨B,hB⟩:∃B,B=w.heap.size:=⟨_,rfl⟩;have hgB:g < B:=by rw[hB];exact nV hh
 have Sj:vb < B:=a4y
 have lg:∀q u,xs[q]? =some u->cur[q]? =some u:=fun q u hq=>a4p
 have hold:(Builtin.firstCells i0.size i (.slice (some ⟨g,0,none⟩) i cap)).run prog w.drew= .ok (xs.take (i*5)).toArray w.drew:=by
  rw[mW];exact run_firstCells_some w.drew 5 i ⟨g,0,none⟩ i cap (xs.take (i*5)) (by rw[Xp];omega) (fun q u hq=>by
   rw[Addr.add_lit,ox (w:=w.drew) hh,XE];rw[Zu]at hq;split at hq
   ·exact lg q u hq
   ·cases hq)
 obtain⟨G,hG⟩:∃G,G=grownCap w (i+k) cap 96:=⟨_,rfl⟩;have hik:i+k=m:=aa;have hGm:m<=G:=by rw[hG,hik];exact grownCap_ge w _ _ _
 have a0y:G<=9223372036854775807:=by
  have:=grownCap_le_maxLen w (i+k) cap 96 uG;rw[<-hG]at this;unfold maxLen at this;omega
 obtain⟨C0,Vp⟩:∃C0:Array Value,C0=(xs.take (i*5)).toArray++Builtin.zeroCells (Value.agg #[.int .i64 0,.int .i64 0,.int .i64 0,.int .i64 0,.int .i64 0]).cells k++Builtin.zeroCells (Value.agg #[.int .i64 0,.int .i64 0,.int .i64 0,.int .i64 0,.int .i64 0]).cells (G - m):=⟨_,rfl⟩;have hz3:∀ty,(Builtin.append_ #[81,3] ty #[.slice (some ⟨g,0,none⟩) i cap,.int .i64 ((m:Int) - (i:Int))]).run prog w= .ok (.slice (some ⟨B,0,none⟩) m G) (w.drew.alloc (.cells C0 96)):=fun ty=>by
  have hz:=Lib.run_append_grow_zeros (P:=prog) w 81 3 ty 96 i0 _ .i64 .i64 underlying81 underlying3 mZ vT (some ⟨g,0,none⟩) i cap (xs.take (i*5)) hold k aa aa aa aa (by rw[rT];omega) (by rw[rT];exact growslice_fits aa aa);rw[<-hG,hik,<-hB]at hz;rw[show (m:Int) - (i:Int)=(k:Int) by omega,hz,Vp]
 have J4:C0.size=G*5:=a6t
 obtain⟨W0,HW⟩:∃W0,W0=w.drew.alloc (.cells C0 96):=⟨_,rfl⟩;rw[<-HW]at hz3;have hh0:W0.heap[B]? =some (.cells C0 96 (0,0)):=by rw[HW,hB];exact kN w.drew _
 have AK:∀b,b < B->W0.heap[b]? =w.heap[b]? :=fun b hb=>a5l
 obtain⟨C1,Bz⟩:∃C1:Array Value,C1=(aB C0.toList (i*5) ys).toArray:=⟨_,rfl⟩;have wd:C1.size=G*5:=by rw[Bz,YG,bw aK];simpa using J4
 obtain⟨W1,s6⟩:∃W1,W1=W0.setRow B C1:=⟨_,rfl⟩;have J2:∀ty dc,(Builtin.copy_ #[81,81] ty #[.slice (some ⟨B,i*5,none⟩) (m - i) dc,.slice (some ⟨vb,vo,none⟩) 1 vc]).run prog W0= .ok (goInt (Z4 1 (m - i))) W1:=fun ty dc=>by
  rw[s6,Bz];exact fj (e:=96) (sz:=5) ys underlying81 mZ mW (by rw[uv,show Z4 1 (m - i)=1 from (by simp only[P'];split<;>omega)]) (fun q u hq=>by
   rw[Addr.add_lit];rw[<-HB q u hq];exact Zw (a:=⟨vb,vo+q,none⟩) (AK vb Sj)) Vc hh0 (by rw[uv,J4];omega) ty
 have AD:W1.heap[B]? =some (.cells C1 96 (0,0)):=by rw[s6];exact setRow_heap _ B _ _ _ _ hh0
 have AL:∀b,b < B->W1.heap[b]? =w.heap[b]? :=fun b hb=>by rw[s6,setRow_other _ _ _ _ aa];exact AK b hb
 have sZ:(xs.drop (i*5)).length=(n - i)*5:=by rw[XS,hl];omega
 have J3:∀ty dc sc,(Builtin.copy_ #[81,81] ty #[.slice (some ⟨B,j*5,none⟩) (m - j) dc,.slice (some ⟨g,i*5,none⟩) (n - i) sc]).run prog W1.drew= .ok (goInt (Z4 (n - i) (m - j))) (W1.drew.setRow B (aB C1.toList (j*5) (xs.drop (i*5))).toArray):=fun ty dc sc=>by
  exact fj (e:=96) (sz:=5) (xs.drop (i*5)) underlying81 mZ mW (by rw[sZ,show Z4 (n - i) (m - j)=n - i from (by simp only[P'];split<;>omega)]) (fun q u hq=>by
   rw[Addr.add_lit,ox (w:=W1.drew) (show W1.heap[g]? =_ from (AL g hgB).trans hh)];rw[Yl]at hq;have:=lg _ u hq;rw[<-this]) (fun u hu=>nq u (Yc hu)) (w:=W1.drew) AD (by rw[sZ,wd];omega) ty
 have hR:Hid (∀e,e=Ending.returned (.slice (some ⟨B,0,none⟩) m G)->DX w 96 g 5 n (xs.take (i*5)++ys++xs.drop (i*5)) e (W1.drew.setRow B (aB C1.toList (j*5) (xs.drop (i*5))).toArray)):=by
  intro e he;refine⟨G,aB C1.toList (j*5) (xs.drop (i*5)),by omega,a0y,?_,?_,by rw[he,hB,Ok],?_,?_⟩
  ·rw[bw (by rw[sZ];simp;omega)];simpa using wd
  ·rw[Bz,Y6];have e1:C0.toList.take (i*5)=xs.take (i*5):=by
    rw[Vp];simp only[_c,XV];rw[Ym aK,XG (by rw[Xp];omega)]
   rw[show (n+1)*5=j*5+(xs.drop (i*5)).length by rw[sZ];omega];unfold aB;rw[Ym aK,XG aK];congr 1;rw[e1,Ym aK,XG aK]
  ·exact a4v
  ·rw[<-hB];exact setRow_heap W1.drew B _ _ _ _ AD
 have ci:IntKind.i64.wrap ((i:Int)+1)=(j:Int):=by rw[IntKind.wrap_i64];omega
 have cj:IntKind.i64.wrap ((n:Int)+1)=(m:Int):=by rw[IntKind.wrap_i64];omega
 have rl:IntKind.i64.wrap ((m:Int) - (i:Int))=(m:Int) - (i:Int):=by rw[IntKind.wrap_i64];omega
 have a0x:¬((i:Int)=(n:Int)):=aa;have j7:i<=n:=aa;have iO:¬(G=j):=aa;have VY:¬(G=i):=aa;have hb4:j<=m:=aa;have hb5:i<=m:=aa;have hb6:i<=cap:=aa;have hb7:(cap:Int) < (m:Int):=aa;have hb8:¬(cap=i):=aa;have hb9:j<=G:=aa;have a2R:i<=G:=aa;clear hold J4 wd sZ uv hl hs ht hh hh0 AD AK AL lg hik vT mW rT hG HW s6 Vp Bz hk hj Ok hB jD;go_enter func241,ntmps241
 go_wp2_with (at_builtin;first|refine rQ _ rfl _ _ 81 3 rfl _ _ rfl rfl (hz3 _) ?_|refine kI _ rfl _ _ 81 81 rfl _ _ rfl rfl (J2 _ _) ?_)
 go_region_law_o (refine ni rfl _ _ 81 81 rfl _ _ (by simp[Act.eval,Act.put]) (by simp[Act.eval,Act.put]) (J3 _ _ _) ?_)
 go_wp2_with fail
 go_ret
 exact hR.out _ rfl
theorem DY (l:List Lse)(x:Lse)(i g:Nat)(hi:i<=l.length)(hl:l.length<=1000000):
 MSpec prog 241 [.own 0 g,.d (.v (.int .i64 i)),.d (.sl 5 [bt x])] [.row 96 5 g (ab (l.map bt))] (.own 0 (g+1)) [.row 96 5 (g+1) (ab ((l.take i++x::l.drop i).map bt))]:=by
 rcases XM i l.length with hlt|hge
 ·have h1:=Qn (P:=prog) (f:=241) (E:=96) (sz:=5) (g:=g) (i:=i) (rows:=l.map bt) (x:=bt x) (bY func241 aJ rfl) aa (by simpa using hlt) (by
   simp only[XB];intro w gb cap vb vo vc cur xs ys q1 q2 q3 q4 q5 q6 q7 q8 q9 q10 q11;obtain⟨u,hu⟩:∃u,ys[0]? =some u:=⟨_,Xk aa⟩;obtain⟨sA,Db,OC⟩:=wK (q11 0 u hu);unfold maxLen at q2;by_cases jD:l.length+1<=cap
   ·refine(zq gb cap l.length i vb vo vc cur xs ys w q1 aa q4 q5 q6 q7 hlt jD q8 q9 q10 q11 sA Db OC).mono ?_;rintro e w' ⟨rfl,rfl⟩;obtain⟨t1,t2⟩:=Gs (sz:=5) (n:=l.length) (i:=i) (cur:=cur.toList) (xs:=xs) (ys:=ys) aa hlt aK q5 q8 q6;have hg1:(w.drew.setRow gb (aB cur.toList ((i+1)*5) (xs.drop (i*5))).toArray).heap[gb]? =some (.cells (aB cur.toList ((i+1)*5) (xs.drop (i*5))).toArray 96 (0,0)):=setRow_heap _ gb _ _ _ _ q1;refine⟨_,rfl,.row gb (l.length+1) cap _ _ aa (setRow_heap _ gb _ _ _ _ hg1) jD q2 (by rw[YG,t2];simpa using q4) (by rw[<-t1,Xp,t2];simp;omega) (by rw[Y6];exact t1),⟨rfl,rfl,rfl,by simp[ZU],fun b hb bH=>?_⟩,.inl (cR aa)⟩;have cT:b≠gb:=fun e=>bH (by rw[e]);rw[setRow_other _ _ _ _ cT,setRow_other _ _ _ _ cT];rfl
   ·refine(zr gb cap l.length i vb vo vc cur xs ys w q1 aa q3 q4 q5 q6 q7 hlt jD q8 q9 q11).mono ?_;rintro e w' ⟨G,R,h1,h2,h3,h4,rfl,h6,h7⟩;exact⟨_,rfl,.row w.heap.size (l.length+1) G R.toArray _ aa h7 h1 h2 (by simpa using h3) (by rw[<-h4,Xp,h3];omega) (by simpa using h4),h6,.inr fun b hb=>by rw[cR aa]at hb;cases hb;exact Xz _⟩)
  rw[Xo,ZI,Xm,List.map_drop];exact h1
 ·obtain rfl:i=l.length:=aa;rw[Xq,Zc];by_cases h0:l=[]
  ·subst h0;refine mj func241 ntmps241 results241 ?_;repeat' (first|(with_reducible refine And.intro ?_ ?_)|(with_reducible refine oS (fun _=>?_) (fun _=>?_))|(with_reducible refine ey (fun _=>?_) (fun _=>?_))|(with_reducible refine jL aJ)|simp -dsimp only[go_sem,seval, *,bt,ab,YM]|((with_reducible refine jM ?_);simp -dsimp only[go_sem,seval,bt,ab,YM];first|refine eA OE ny ?_|refine ez gT (by repeat(first|exact aP.refl _|exact aP.nil _|(refine aP.tup ?_)|(refine aP.agg ?_ rfl)|exact trivial|(refine And.intro ?_ ?_))) ny ?_)|omega|exact decide_eq_true aa|exact aP.refl _)
   all_goals exact bn rfl rfl
  ·have bH:¬ab (l.map bt)=[]:=by simpa[ab]using h0
   refine mj func241 ntmps241 results241 ?_;refine ft ?_ ?_ ?_ ?_ ?_ ?_ ?_ ?_<;>first|(with_reducible exact True.intro)|intros
   all_goals exact bn rfl (by simp[bt,ab])
theorem rS:(prog.info? 83).map (fun i=>(i.zero,i.size,i.bytes))=some (some (.agg #[.int .i64 0,.int .i64 0,.int .i64 0,.int .i64 0,.int .i64 0,.int .i64 0,.int .i64 0,.int .i64 0,.slice none 0 0]),9,88):=aJ
theorem Bd (g cap n i vb vo vc:Nat)(cur:Array Value)(xs ys:List Value)(w:World)(hh:w.heap[g]? =some (.cells cur 83 (0,0)))(hm:cap<=9223372036854775807)(hs:cur.size=cap*9)(hl:xs.length=n*9)(ht:cur.toList.take (n*9)=xs)
 (nq:∀u∈xs,u.oneCell'=true) (hi:i < n) (jD:n+1<=cap) (uv:ys.length=9) (Vc:∀u∈ys,u.oneCell'=true) (R3:vb≠g) (HB:∀j u,ys[j]? =some u->w.cell? ⟨vb,vo+j,none⟩=some u)
 (sA:TypeId × Nat) (Db:w.shape? vb=some sA) (OC:sA.2≠0):
 Calls prog 237 #[.slice (some ⟨g,0,none⟩) n cap,.int .i64 i,.slice (some ⟨vb,vo,none⟩) 1 vc] w fun e w'=>
  e= .returned (.slice (some ⟨g,0,none⟩) (n+1) cap)/\w'=(w.drew.setRow g (aB cur.toList ((i+1)*9) (xs.drop (i*9))).toArray).setRow g (aB (aB cur.toList ((i+1)*9) (xs.drop (i*9))) (i*9) ys).toArray:=by
 obtain⟨i0,mZ,vT,mW,rT⟩:=info_parts rS;have am:prog.follows .mixedOrders=true:=aJ;have pJ:(i:Int)+1=((i+1:Nat):Int):=aa;obtain⟨j,hj⟩:∃j,j=i+1:=⟨_,rfl⟩;obtain⟨m,Ok⟩:∃m,m=n+1:=⟨_,rfl⟩;have cL:∀w,(sizeOf 83).run prog w= .ok 9 w:=fun w=>by simp[sizeOf,typeInfo,mZ,mW]
 have ep:∀lb cb,(callFunc 278 #[.slice (some ⟨vb,vo,none⟩) 1 vc,.slice (some ⟨g,j*9,none⟩) lb cb]).run prog w= .ok (.value (.bool false)) w:=fun lb cb=>by
  rw[run_callFunc_extern (fn:=f278) aJ aJ aJ aJ (e:=Extern.SlicesOverlaps.overlaps #[28,28] #[4]) aJ,
   ow w 28 4 83 underlying28 9 cL ⟨vb,vo,none⟩ ⟨g,j*9,none⟩ 1 vc lb cb R3 sA Db OC cur 83 hh aa]
  rfl
 have sZ:(xs.drop (i*9)).length=(n - i)*9:=by rw[XS,hl];omega
 have lg:∀q u,xs[q]? =some u->cur[q]? =some u:=fun q u hq=>a4p
 obtain⟨C1,Bz⟩:∃C1:Array Value,C1=(aB cur.toList (j*9) (xs.drop (i*9))).toArray:=⟨_,rfl⟩;have wd:C1.size=cap*9:=by rw[Bz,YG,bw aK];simpa using hs
 obtain⟨W1,s6⟩:∃W1,W1=w.drew.setRow g C1:=⟨_,rfl⟩;have J2:∀ty dc sc,(Builtin.copy_ #[28,28] ty #[.slice (some ⟨g,j*9,none⟩) (m - j) dc,.slice (some ⟨g,i*9,none⟩) (m - i) sc]).run prog w.drew= .ok (goInt (Z4 (m - i) (m - j))) W1:=fun ty dc sc=>by
  rw[s6,Bz];exact fj (e:=83) (sz:=9) (xs.drop (i*9)) underlying28 mZ mW (by rw[sZ,show Z4 (m - i) (m - j)=n - i from (by simp only[P'];split<;>omega)]) (fun q u hq=>by
   rw[Addr.add_lit,ox (w:=w.drew) hh];rw[Yl]at hq;have:=lg _ u hq;rw[<-this]) (fun u hu=>nq u (Yc hu)) (w:=w.drew) hh (by rw[sZ,hs];omega) ty
 have AD:W1.heap[g]? =some (.cells C1 83 (0,0)):=by rw[s6];exact setRow_heap _ g _ _ _ _ hh
 have J3:∀(W:World),W=W1->∀ty dc,(Builtin.copy_ #[28,28] ty #[.slice (some ⟨g,i*9,none⟩) (m - i) dc,.slice (some ⟨vb,vo,none⟩) 1 vc]).run prog W= .ok (goInt (Z4 1 (m - i))) (W1.setRow g (aB C1.toList (i*9) ys).toArray):=fun W hW ty dc=>by
  subst hW;exact fj (e:=83) (sz:=9) ys underlying28 mZ mW (by rw[uv,show Z4 1 (m - i)=1 from (by simp only[P'];split<;>omega)]) (fun q u hq=>by
   rw[Addr.add_lit,s6];have:=HB q u hq;rw[<-this];exact Zw (a:=⟨vb,vo+q,none⟩) (by rw[setRow_other _ _ _ _ R3];rfl)) Vc AD (by rw[uv,wd];omega) ty
 have ci:IntKind.i64.wrap ((i:Int)+1)=(j:Int):=by rw[IntKind.wrap_i64];omega
 have cj:IntKind.i64.wrap ((n:Int)+1)=(m:Int):=by rw[IntKind.wrap_i64];omega
 have cp:Hid (W1.setRow g (aB C1.toList (i*9) ys).toArray=(w.drew.setRow g (aB cur.toList ((i+1)*9) (xs.drop (i*9))).toArray).setRow g (aB (aB cur.toList ((i+1)*9) (xs.drop (i*9))) (i*9) ys).toArray):=by
  show W1.setRow g (aB C1.toList (i*9) ys).toArray=_;rw[s6,Bz,hj]
 have a0x:¬((i:Int)=(n:Int)):=aa;have j7:i<=n:=aa;have iO:¬(cap=j):=aa;have VY:¬(cap=i):=aa;have hb4:j<=m:=aa;have hb5:i<=m:=aa;have hb6:m<=cap:=aa;have hb7:¬((cap:Int) < (m:Int)):=aa;rw[<-Ok];have Oz:=Xj hj;have iQ:=Xj Ok;have hW:=Xj s6;have hC:=Xj Bz;clear hj Ok s6 Bz ht hl hs uv wd sZ lg pJ AD vT mW rT hh;go_enter func237,ntmps237
 go_wp2_with (simp only[ep])
 go_region_law_o (refine ni rfl _ _ 28 28 rfl _ _ (by simp[Act.eval,Act.put]) (by simp[Act.eval,Act.put]) (J2 _ _ _) ?_)
 go_wp2_with (at_builtin;refine kI _ rfl _ _ 28 28 rfl _ _ rfl rfl (J3 _ rfl _ _) ?_)
 go_ret
 exact⟨rfl,cp.out⟩
theorem Be (g cap n i vb vo vc:Nat)(cur:Array Value)(xs ys:List Value)(w:World)(hh:w.heap[g]? =some (.cells cur 83 (0,0)))(hm:cap<=1000000000)(Ls:n<=cap)(hs:cur.size=cap*9)(hl:xs.length=n*9)(ht:cur.toList.take (n*9)=xs)
 (nq:∀u∈xs,u.oneCell'=true) (hi:i < n) (jD:¬n+1<=cap) (uv:ys.length=9) (Vc:∀u∈ys,u.oneCell'=true) (HB:∀j u,ys[j]? =some u->w.cell? ⟨vb,vo+j,none⟩=some u):
 Calls prog 237 #[.slice (some ⟨g,0,none⟩) n cap,.int .i64 i,.slice (some ⟨vb,vo,none⟩) 1 vc] w (DX w 83 g 9 n (xs.take (i*9)++ys++xs.drop (i*9))):=by
 obtain⟨i0,mZ,vT,mW,rT⟩:=info_parts rS;have am:prog.follows .mixedOrders=true:=aJ;obtain⟨j,hj⟩:∃j,j=i+1:=⟨_,rfl⟩;obtain⟨m,Ok⟩:∃m,m=n+1:=⟨_,rfl⟩;obtain⟨k,hk⟩:∃k,k=m - i:=⟨_,rfl⟩;obtain⟨B,hB⟩:∃B,B=w.heap.size:=⟨_,rfl⟩;have hgB:g < B:=by rw[hB];exact nV hh
 have Sj:vb < B:=a4y
 have lg:∀q u,xs[q]? =some u->cur[q]? =some u:=fun q u hq=>a4p
 have hold:(Builtin.firstCells i0.size i (.slice (some ⟨g,0,none⟩) i cap)).run prog w.drew= .ok (xs.take (i*9)).toArray w.drew:=by
  rw[mW];exact run_firstCells_some w.drew 9 i ⟨g,0,none⟩ i cap (xs.take (i*9)) (by rw[Xp];omega) (fun q u hq=>by
   rw[Addr.add_lit,ox (w:=w.drew) hh,XE];rw[Zu]at hq;split at hq
   ·exact lg q u hq
   ·cases hq)
 obtain⟨G,hG⟩:∃G,G=grownCap w (i+k) cap 83:=⟨_,rfl⟩;have hik:i+k=m:=aa;have hGm:m<=G:=by rw[hG,hik];exact grownCap_ge w _ _ _
 have a0y:G<=9223372036854775807:=by
  have:=grownCap_le_maxLen w (i+k) cap 83 uG;rw[<-hG]at this;unfold maxLen at this;omega
 obtain⟨C0,Vp⟩:∃C0:Array Value,C0=(xs.take (i*9)).toArray++Builtin.zeroCells (Value.agg #[.int .i64 0,.int .i64 0,.int .i64 0,.int .i64 0,.int .i64 0,.int .i64 0,.int .i64 0,.int .i64 0,.slice none 0 0]).cells k++Builtin.zeroCells (Value.agg #[.int .i64 0,.int .i64 0,.int .i64 0,.int .i64 0,.int .i64 0,.int .i64 0,.int .i64 0,.int .i64 0,.slice none 0 0]).cells (G - m):=⟨_,rfl⟩;have hz3:∀ty,(Builtin.append_ #[28,3] ty #[.slice (some ⟨g,0,none⟩) i cap,.int .i64 ((m:Int) - (i:Int))]).run prog w= .ok (.slice (some ⟨B,0,none⟩) m G) (w.drew.alloc (.cells C0 83)):=fun ty=>by
  have hz:=Lib.run_append_grow_zeros (P:=prog) w 28 3 ty 83 i0 _ .i64 .i64 underlying28 underlying3 mZ vT (some ⟨g,0,none⟩) i cap (xs.take (i*9)) hold k aa aa aa aa (by rw[rT];omega) (by rw[rT];exact growslice_fits aa aa);rw[<-hG,hik,<-hB]at hz;rw[show (m:Int) - (i:Int)=(k:Int) by omega,hz,Vp]
 have J4:C0.size=G*9:=a6t
 obtain⟨W0,HW⟩:∃W0,W0=w.drew.alloc (.cells C0 83):=⟨_,rfl⟩;rw[<-HW]at hz3;have hh0:W0.heap[B]? =some (.cells C0 83 (0,0)):=by rw[HW,hB];exact kN w.drew _
 have AK:∀b,b < B->W0.heap[b]? =w.heap[b]? :=fun b hb=>a5l
 obtain⟨C1,Bz⟩:∃C1:Array Value,C1=(aB C0.toList (i*9) ys).toArray:=⟨_,rfl⟩;have wd:C1.size=G*9:=by rw[Bz,YG,bw aK];simpa using J4
 obtain⟨W1,s6⟩:∃W1,W1=W0.setRow B C1:=⟨_,rfl⟩;have J2:∀ty dc,(Builtin.copy_ #[28,28] ty #[.slice (some ⟨B,i*9,none⟩) (m - i) dc,.slice (some ⟨vb,vo,none⟩) 1 vc]).run prog W0= .ok (goInt (Z4 1 (m - i))) W1:=fun ty dc=>by
  rw[s6,Bz];exact fj (e:=83) (sz:=9) ys underlying28 mZ mW (by rw[uv,show Z4 1 (m - i)=1 from (by simp only[P'];split<;>omega)]) (fun q u hq=>by
   rw[Addr.add_lit];rw[<-HB q u hq];exact Zw (a:=⟨vb,vo+q,none⟩) (AK vb Sj)) Vc hh0 (by rw[uv,J4];omega) ty
 have AD:W1.heap[B]? =some (.cells C1 83 (0,0)):=by rw[s6];exact setRow_heap _ B _ _ _ _ hh0
 have AL:∀b,b < B->W1.heap[b]? =w.heap[b]? :=fun b hb=>by rw[s6,setRow_other _ _ _ _ aa];exact AK b hb
 have sZ:(xs.drop (i*9)).length=(n - i)*9:=by rw[XS,hl];omega
 have J3:∀ty dc sc,(Builtin.copy_ #[28,28] ty #[.slice (some ⟨B,j*9,none⟩) (m - j) dc,.slice (some ⟨g,i*9,none⟩) (n - i) sc]).run prog W1.drew= .ok (goInt (Z4 (n - i) (m - j))) (W1.drew.setRow B (aB C1.toList (j*9) (xs.drop (i*9))).toArray):=fun ty dc sc=>by
  exact fj (e:=83) (sz:=9) (xs.drop (i*9)) underlying28 mZ mW (by rw[sZ,show Z4 (n - i) (m - j)=n - i from (by simp only[P'];split<;>omega)]) (fun q u hq=>by
   rw[Addr.add_lit,ox (w:=W1.drew) (show W1.heap[g]? =_ from (AL g hgB).trans hh)];rw[Yl]at hq;have:=lg _ u hq;rw[<-this]) (fun u hu=>nq u (Yc hu)) (w:=W1.drew) AD (by rw[sZ,wd];omega) ty
 have hR:Hid (∀e,e=Ending.returned (.slice (some ⟨B,0,none⟩) m G)->DX w 83 g 9 n (xs.take (i*9)++ys++xs.drop (i*9)) e (W1.drew.setRow B (aB C1.toList (j*9) (xs.drop (i*9))).toArray)):=by
  intro e he;refine⟨G,aB C1.toList (j*9) (xs.drop (i*9)),by omega,a0y,?_,?_,by rw[he,hB,Ok],?_,?_⟩
  ·rw[bw (by rw[sZ];simp;omega)];simpa using wd
  ·rw[Bz,Y6];have e1:C0.toList.take (i*9)=xs.take (i*9):=by
    rw[Vp];simp only[_c,XV];rw[Ym aK,XG (by rw[Xp];omega)]
   rw[show (n+1)*9=j*9+(xs.drop (i*9)).length by rw[sZ];omega];unfold aB;rw[Ym aK,XG aK];congr 1;rw[e1,Ym aK,XG aK]
  ·exact a4v
  ·rw[<-hB];exact setRow_heap W1.drew B _ _ _ _ AD
 have ci:IntKind.i64.wrap ((i:Int)+1)=(j:Int):=by rw[IntKind.wrap_i64];omega
 have cj:IntKind.i64.wrap ((n:Int)+1)=(m:Int):=by rw[IntKind.wrap_i64];omega
 have rl:IntKind.i64.wrap ((m:Int) - (i:Int))=(m:Int) - (i:Int):=by rw[IntKind.wrap_i64];omega
 have a0x:¬((i:Int)=(n:Int)):=aa;have j7:i<=n:=aa;have iO:¬(G=j):=aa;have VY:¬(G=i):=aa;have hb4:j<=m:=aa;have hb5:i<=m:=aa;have hb6:i<=cap:=aa;have hb7:(cap:Int) < (m:Int):=aa;have hb8:¬(cap=i):=aa;have hb9:j<=G:=aa;have a2R:i<=G:=aa;clear hold J4 wd sZ uv hl hs ht hh hh0 AD AK AL lg hik vT mW rT hG HW s6 Vp Bz hk hj Ok hB jD;go_enter func237,ntmps237
 go_wp2_with (at_builtin;first|refine rQ _ rfl _ _ 28 3 rfl _ _ rfl rfl (hz3 _) ?_|refine kI _ rfl _ _ 28 28 rfl _ _ rfl rfl (J2 _ _) ?_)
 go_region_law_o (refine ni rfl _ _ 28 28 rfl _ _ (by simp[Act.eval,Act.put]) (by simp[Act.eval,Act.put]) (J3 _ _ _) ?_)
 go_wp2_with fail
 go_ret
 exact hR.out _ rfl
theorem Gt (l:List Pol)(x:Pol)(i g:Nat)(hi:i<=l.length)(hl:l.length<=1000000):
 MSpec prog 237 [.own 0 g,.d (.v (.int .i64 i)),.d (.sl 9 [an x])] [.row 83 9 g (ab (l.map an))] (.own 0 (g+1)) [.row 83 9 (g+1) (ab ((l.take i++x::l.drop i).map an))]:=by
 rcases XM i l.length with hlt|hge
 ·have h1:=Qn (P:=prog) (f:=237) (E:=83) (sz:=9) (g:=g) (i:=i) (rows:=l.map an) (x:=an x) (bY func237 aJ rfl) aa (by simpa using hlt) (by
   simp only[XB];intro w gb cap vb vo vc cur xs ys q1 q2 q3 q4 q5 q6 q7 q8 q9 q10 q11;obtain⟨u,hu⟩:∃u,ys[0]? =some u:=⟨_,Xk aa⟩;obtain⟨sA,Db,OC⟩:=wK (q11 0 u hu);unfold maxLen at q2;by_cases jD:l.length+1<=cap
   ·refine(Bd gb cap l.length i vb vo vc cur xs ys w q1 aa q4 q5 q6 q7 hlt jD q8 q9 q10 q11 sA Db OC).mono ?_;rintro e w' ⟨rfl,rfl⟩;obtain⟨t1,t2⟩:=Gs (sz:=9) (n:=l.length) (i:=i) (cur:=cur.toList) (xs:=xs) (ys:=ys) aa hlt aK q5 q8 q6;have hg1:(w.drew.setRow gb (aB cur.toList ((i+1)*9) (xs.drop (i*9))).toArray).heap[gb]? =some (.cells (aB cur.toList ((i+1)*9) (xs.drop (i*9))).toArray 83 (0,0)):=setRow_heap _ gb _ _ _ _ q1;refine⟨_,rfl,.row gb (l.length+1) cap _ _ aa (setRow_heap _ gb _ _ _ _ hg1) jD q2 (by rw[YG,t2];simpa using q4) (by rw[<-t1,Xp,t2];simp;omega) (by rw[Y6];exact t1),⟨rfl,rfl,rfl,by simp[ZU],fun b hb bH=>?_⟩,.inl (cR aa)⟩;have cT:b≠gb:=fun e=>bH (by rw[e]);rw[setRow_other _ _ _ _ cT,setRow_other _ _ _ _ cT];rfl
   ·refine(Be gb cap l.length i vb vo vc cur xs ys w q1 aa q3 q4 q5 q6 q7 hlt jD q8 q9 q11).mono ?_;rintro e w' ⟨G,R,h1,h2,h3,h4,rfl,h6,h7⟩;exact⟨_,rfl,.row w.heap.size (l.length+1) G R.toArray _ aa h7 h1 h2 (by simpa using h3) (by rw[<-h4,Xp,h3];omega) (by simpa using h4),h6,.inr fun b hb=>by rw[cR aa]at hb;cases hb;exact Xz _⟩)
  rw[Xo,ZI,Xm,List.map_drop];exact h1
 ·obtain rfl:i=l.length:=aa;rw[Xq,Zc];by_cases h0:l=[]
  ·subst h0;refine mj func237 ntmps237 results237 ?_;repeat' (first|(with_reducible refine And.intro ?_ ?_)|(with_reducible refine oS (fun _=>?_) (fun _=>?_))|(with_reducible refine ey (fun _=>?_) (fun _=>?_))|(with_reducible refine jL aJ)|simp -dsimp only[go_sem,seval, *,an,ab,YM]|((with_reducible refine jM ?_);simp -dsimp only[go_sem,seval,an,ab,YM];first|refine eA OE ny ?_|refine ez gT (by repeat(first|exact aP.refl _|exact aP.nil _|(refine aP.tup ?_)|(refine aP.agg ?_ rfl)|exact trivial|(refine And.intro ?_ ?_))) ny ?_)|omega|exact decide_eq_true aa|exact aP.refl _)
   all_goals exact bn rfl rfl
  ·have bH:¬ab (l.map an)=[]:=by simpa[ab]using h0
   refine mj func237 ntmps237 results237 ?_;refine ft ?_ ?_ ?_ ?_ ?_ ?_ ?_ ?_<;>first|(with_reducible exact True.intro)|intros
   all_goals exact bn rfl (by simp[an,ab])
end
theorem a3U {p:Prop}(h:p:=by
 refine(aL 0 ah).trans ((ay ah 1 30 [.d (.v (.int .i64 b.tick)),.d (.v (.slice none 0 0))] 1 83 9 rfl rfl rfl).trans ?_);exact wf):p:=h
theorem a4u {p:Prop}(h:p:=by
 have:=hm.out;have:=bN.out;have:=uB.out;omega):p:=h
theorem a4R {p:Prop}(h:p:=by
 intro _ C;refine ap ?_<;>intros;(try rw[Xq])
 exact bn rfl rfl):p:=h
theorem Ue (b:Bok)(h8:b.pools.length<=8)(eG:∀p∈b.pools,p.leases.length<=32):
 MSpec prog 232 [.d (.agg (bq b))] [] (.ptr 1 0) [.gone,.box 30 [.d (.v (.int .i64 b.tick)),.own 2 b.pools.length],.row 83 9 b.pools.length (ab (b.pools.map an))]:=by
 refine mj func232 ntmps232 results232 ?_;refine ap ?_<;>intros;refine bf ag am b.pools (fun _=>True) (fun k=>[(13,.d (.v (.int .i64 k))),(12,.d (.v (.int .i64 b.pools.length))),(11,.d (.sl 9 (b.pools.map an))),(3,.ptr 1 0),(2,.d (.v (.pointer none)))])
  (fun k=>[.gone,.box 30 [.d (.v (.int .i64 b.tick)),.own 2 k],.row 83 9 k (ab ((b.pools.take k).map an))]) trivial ?_ ?_ ?_
 ·exact a3U
 ·intro k p hp hk _ C hC;have eo:(k:Int) < (b.pools.length:Int):=aa;have db:=wi k aa;have jC:=eG p (Xl hp);have j7:k+1<=100:=aa;have hlt:(Yf k b.pools).length=k:=by rw[Xp];omega
  have z1z:=Ln.mk (ls:=[]) (js bt p.leases aa);refine ap ?_<;>intros;refine hC _ _ trivial ((av 4 1 96 5 (p.leases.map bt) rfl).trans ?_);simp only[jq,fz,ij,gM,iS,gI,aT,bW,ce,Xm,Xr,XL,XK,reduceIte,and_true,true_and,and_self,and_false,false_and,XE,XT,reduceCtorEq];exact wf (hh:=(by rw[ak hp,Xo,Xm,Xr,<-aI];rfl))
 ·exact a4R
def aA (p:Pol)(v:PV):List PV:=[.d (.v (.int .i64 p.id)),.d (.v (.int .i64 p.up)),.d (.v (.int .i64 p.root.at_)),.d (.v (.int .i64 p.root.len)),.d (.v (.int .i64 p.rule.min)),.d (.v (.int .i64 p.rule.max)),.d (.v (.int .i64 p.rule.usual)),.d (.v (.int .i64 p.rule.cool)),v]
def gh (pre:List Pol)(r:List PV)(post:List Pol):List (List PV):=ab (pre.map an)++r::ab (post.map an)
@[go_sem] theorem zt (pre:List Pol)(r:List PV)(post:List Pol):(gh pre r post).length=pre.length+1+post.length:=by
 simp[gh,aG];omega
theorem kU (n:Nat):∀(l m:List (List PV)),cE n (l++m)=(cE n l&&cE n m)
 |[],m=>rfl
 |r::l,m=>by simp only[X9,cE,kU n l m,_n]
theorem jk (n:Nat)(pre:List Pol)(r:List PV)(post:List Pol):cE n (gh pre r post)=aq n r:=by
 simp only[gh,kU,cE,aC,Ys,YA]
theorem bz {A:Prop}(h:A:=by first|rfl|simp only[aH,eJ,aR,aq,cE,au,bu,aC,jk,aA,Xx,XX,XL,Z8,decide_true,Yq,YA]):A:=h
theorem KL (k g:Nat)(d:D)(pre:List Pol)(r:List PV)(post:List Pol):gI k g d (gh pre r post)=gh pre (ij k g d r) post:=by
 simp only[gh,aT,gI,bW]
theorem Nh (pre:List Pol)(r:List PV)(post:List Pol)(q:Pol):gh pre r post++[(an q).map .d]=gh pre r (post++[q]):=by
 simp[gh,ab]
theorem WG (b:Bok)(pre post:List Pol)(p:Pol)(hb:b.pools=pre++p::post)(h8:b.pools.length<=8)(eG:∀p∈b.pools,p.leases.length<=32):
 MSpec prog 232 [.d (.agg (bq b))] [] (.ptr 1 0) [.gone,.box 30 [.d (.v (.int .i64 b.tick)),.own 2 b.pools.length],.row 83 9 b.pools.length (gh pre (aA p (.own 4 1)) post),.gone,.row 96 5 1 (ab (p.leases.map bt))]:=by
 have bB:b.pools.length=pre.length+1+post.length:=by rw[hb];simp;omega
 have hL:=Xj hb;have bN:=Xj bB;clear hb bB;refine mj func232 ntmps232 results232 ?_;refine ap ?_<;>intros;refine bQ ag am (fun m e h=>(∃k,k<=pre.length/\m=b.pools.length - k/\e=[(13,.d (.v (.int .i64 k))),(12,.d (.v (.int .i64 b.pools.length))),(11,.d (.sl 9 (b.pools.map an))),(3,.ptr 1 0),(2,.d (.v (.pointer none)))]/\
  h=[.gone,.box 30 [.d (.v (.int .i64 b.tick)),.own 2 k],.row 83 9 k (ab ((pre.take k).map an))])\/
  ∃k j,k=pre.length+1+j/\j<=post.length/\m=b.pools.length - k/\e=[(13,.d (.v (.int .i64 k))),(12,.d (.v (.int .i64 b.pools.length))),(11,.d (.sl 9 (b.pools.map an))),(3,.ptr 1 0),(2,.d (.v (.pointer none)))]/\
   h=[.gone,.box 30 [.d (.v (.int .i64 b.tick)),.own 2 k],.row 83 9 k (gh pre (aA p (.own 4 1)) (post.take j)),.gone,.row 96 5 1 (ab (p.leases.map bt))]) _ _ _ (.inl ⟨0,XD _,rfl,rfl,rfl⟩) ?_ ?_
 ·exact a3U
 ·rintro m e h (⟨k,hk,hm,rfl,rfl⟩|⟨k,j,EF,hj,hm,rfl,rfl⟩) C hC
  ·have eo:(k:Int) < (b.pools.length:Int):=by have:=bN.out;omega
   have db:=wi k aa;have j7:k+1<=100:=by have:=bN.out;omega
   have hlt:(Yf k pre).length=k:=by rw[Xp];omega
   have hm:=Xj hm;by_cases nu:k < pre.length
   ·obtain⟨q,hq⟩:∃q,pre[k]? =some q:=⟨_,Xk nu⟩;have qD:b.pools[k]? =some q:=by rw[hL.out,X5 nu];exact hq
    have jC:=eG q (Xl qD);have hq:=Xj hq;have z1z:=Ln.mk (ls:=[]) (js bt q.leases aa);refine ap ?_<;>intros;refine hC _ _ _ _ _ ?_ (.inl ⟨k+1,nu,rfl,rfl,rfl⟩) ((av 4 1 96 5 (q.leases.map bt) rfl).trans ?_)
    ·have:=hm.out;have:=bN.out;omega
    simp only[jq,fz,ij,gM,iS,gI,aT,bW,ce,Xm,Xr,XL,XK,reduceIte,and_true,true_and,and_self,and_false,false_and,XE,XT,reduceCtorEq];exact wf (hh:=(by rw[ak hq.out,Xo,Xm,Xr,<-aI];rfl))
   ·obtain rfl:k=pre.length:=aa;have qD:b.pools[pre.length]? =some p:=by rw[hL.out,XH (Xz _),YF];rfl
    have jC:=eG p (Xl qD);have z1z:=Ln.mk (ls:=[]) (js bt p.leases aa);refine ap ?_<;>intros;refine hC _ _ _ _ _ ?_ (.inr ⟨pre.length+1,0,rfl,XD _,rfl,rfl,rfl⟩) ((aL 3 ah).trans ?_)
    ·have:=hm.out;have:=bN.out;omega
    exact wf (hb:=bz) (hbh:=bz)
  ·have hm:=Xj hm;have uB:=Xj EF;have j7:pre.length+1+j+1<=100:=by have:=bN.out;omega
   have hlt:(Yf j post).length=j:=by rw[Xp];omega
   have xT:k<=b.pools.length:=by have:=bN.out;omega
   by_cases AR:j < post.length
   ·obtain⟨q,hq⟩:∃q,post[j]? =some q:=⟨_,Xk AR⟩;have qD:b.pools[k]? =some q:=by
     rw[hL.out,XH aa,show k - pre.length=j+1 by omega,Yw];exact hq
    have jC:=eG q (Xl qD);have eo:(k:Int) < (b.pools.length:Int):=by have:=bN.out;omega
    have db:=wi k aa;have hq:=Xj hq;clear EF;have z1z:=Ln.mk (ls:=[]) (js bt q.leases aa);refine ap ?_<;>intros;refine hC _ _ _ _ _ ?_ (.inr ⟨k+1,j+1,by have:=uB.out;omega,AR,rfl,rfl,rfl⟩) ((av 6 1 96 5 (q.leases.map bt) rfl).trans ?_)
    ·exact a4u
    simp only[jq,fz,ij,gM,iS,gI,aT,bW,ce,Xm,Xr,XL,XK,reduceIte,and_true,true_and,and_self,and_false,false_and,XE,XT,reduceCtorEq,KL,aA];exact wf (hh:=(by rw[ak hq.out,<-Nh];rfl)) (hb:=bz) (hbh:=bz)
   ·obtain rfl:j=post.length:=aa;obtain rfl:k=b.pools.length:=by have:=bN.out;omega
    clear EF;refine ap ?_<;>intros;(try rw[Xq])
    exact bn rfl rfl
theorem a3S {p:Prop}(h:p:=by
 obtain⟨hi,rfl⟩:=Xn.1 hq;have h1:j8 key (key l[i]) l=i:=so (V' hi) (fun k hk Sd=>XF.1 hs k i hk hi Sd) (fun k hk Sd=>by
  rcases XM i k with h|h
  ·have:=XF.1 hs i k hi hk h;omega
  ·obtain rfl:k=i:=aa;exact ZW _)
 refine⟨h1,?_⟩;unfold tM;rw[h1,hq];simp):p:=h
@[go_sem] theorem aO (ρ:Nat->Nat)(pre:List Pol)(r:List PV)(post:List Pol):kO ρ (gh pre r post)=gh pre (jH ρ r) post:=by
 have app:∀(l m:List (List PV)),kO ρ (l++m)=kO ρ l++kO ρ m:=by
  intro l m;rw[fd,fd,fd,Xo]
 simp only[gh,app,kO,yv]
structure BookOK (b:Bok):Prop where
 n8:b.pools.length<=8
 l32:∀p∈b.pools,p.leases.length<=32
 rise:o0 b.pools
 tick:0<=b.tick/\b.tick<=1073741824
 mem:∀p∈b.pools,dV p.id=true/\iW p.root (dD p)=0/\fZ p.rule p.root.len=true
 second:dO b b.pools []=true
theorem dJ {b:Bok}(h:br b=0):BookOK b:=by
 unfold br at h;split at h
 ·cases h
 ·rename_i h8;split at h
  ·cases h
  ·rename_i ht;split at h
   ·rename_i hf;rw[Xt]at hf;have hm:=nh _ _ hf.1;refine⟨by omega,fun p hp=>?_,(lO _ _ hf.1).1,by omega,hm,hf.2⟩;have:=(hm p hp).2.1;unfold iW at this;split at this
    ·cases this
    ·rename_i h;simpa[dD]using h
   ·cases h
theorem oy (b:Bok)(hz:∀p∈b.pools,p.leases.length<=3518437208882)(h:br b≠0):ai prog 155 [.agg (bq b)] (.tup [.v (.pointer none),.v (.int .i64 (br b))]):=by
 have hc:=ou b hz;have h1:(br b !=0)=true:=by simpa using h
 refine pj func155 ntmps155 results155 ?_;exact bc
theorem kz (b:Bok)(hz:∀p∈b.pools,p.leases.length<=3518437208882)(h:br b=0):
 MSpec prog 155 [.d (.agg (bq b))] [] (.tup [.ptr 2 0,.d (.v (.int .i64 0))]) [.gone,.gone,.box 30 [.d (.v (.int .i64 b.tick)),.own 3 b.pools.length],.row 83 9 b.pools.length (ab (b.pools.map an))]:=by
 have hc:=ou b hz;have hb:=dJ h;have ho:=Ue b hb.n8 hb.l32;rw[h]at hc;replace h:=Xj h;refine mj func155 ntmps155 results155 ?_;have z1z:=Ln.mk (ls:=[]) (ho);refine ap ?_<;>intros;exact(aL 0 ah).trans (bn rfl rfl)
theorem t5 (b:Bok)(pre post:List Pol)(p:Pol)(hp:b.pools=pre++p::post)(hz:∀p∈b.pools,p.leases.length<=3518437208882)(h:br b=0):
 MSpec prog 155 [.d (.agg (bq b))] [] (.tup [.ptr 2 0,.d (.v (.int .i64 0))]) [.gone,.gone,.box 30 [.d (.v (.int .i64 b.tick)),.own 3 b.pools.length],.row 83 9 b.pools.length (gh pre (aA p (.own 5 1)) post),.gone,.row 96 5 1 (ab (p.leases.map bt))]:=by
 have hc:=ou b hz;have hb:=dJ h;have ho:=WG b pre post p hp hb.n8 hb.l32;rw[h]at hc;replace h:=Xj h;replace hp:=Xj hp;refine mj func155 ntmps155 results155 ?_;have z1z:=@aA.eq_1;have z2z:=Ln.mk (ls:=[]) (ho);refine ap ?_<;>intros;exact(aL 0 ah).trans (bn rfl rfl)
theorem a1i {α:Type}{key:α->Int}{l:List α}{i:Nat}{q:α}(hs:l.Pairwise fun a b=>key a < key b)(hq:l[i]? =some q):j8 key (key q) l=i/\tM key (key q) l=true:=a3S
theorem DZ (b:Bok)(i:Nat)(q:Pol)(g:Nat)(rows:List (List PV))(hs:List Chunk)(c0:PV)(hq:b.pools[i]? =some q)(hr:o0 b.pools)(h8:b.pools.length<=8)(C5:rows.length=b.pools.length)
 (hv:du (bx (aD (.box 30 [c0,.own 1 g]:: .row 83 9 g rows::hs)) 5) rows=some (b.pools.map an)) (sW:cE (hs.length+2) rows=true) (hbh:aH (hs.length+2) hs=true) (JV:au (hs.length+2) c0=true):
 MSpec prog 156 [.ptr 0 0,.d (.v (.int .i64 q.id))] (.box 30 [c0,.own 1 g]:: .row 83 9 g rows::hs) (.tup [.rp 1 g 9 i 0,.d (.v (.bool true))]) (.box 30 [c0,.own 1 g]:: .row 83 9 g rows::hs):=by
 have Vn:=vA my (fun p=>p.id) b.pools q.id 234 [] aa hr (fun p _=>I7 p q.id);obtain⟨e1,e2⟩:=a1i (key:=fun p:Pol=>p.id) hr hq;rw[e1,e2]at Vn;have hi:i < rows.length:=by rw[C5];exact(Xn.1 hq).1
 have V5:(0:Int)<=(i:Int):=aa;replace hq:=Xj hq;replace C5:=Xj C5;replace e1:=Xj e1;replace e2:=Xj e2;refine DM ag am func156 rfl ntmps156 results156 aJ (Xz _) (by simp[aq,au]) (by simp[aH,aR,aq,au,sW,hbh,JV]) ?_;refine ap ?_<;>intros;exact bn rfl rfl
def cC (p:Pol)(size:Int):Pfx × Int:=
 if size < p.rule.min\/size>p.rule.max then (Pfx.zero,7)else
 if (mT p.root (dD p) size).2.1=false\/p.leases.length=32 then (Pfx.zero,8)else ((mT p.root (dD p) size).1,0)
theorem VH (p:Pol)(size:Int)(hl:p.leases.length<=32):ai prog 161 [.ept (an p),.v (.int .i64 size)] (.tup [.agg (aS (cC p size).1),.v (.int .i64 (cC p size).2)]):=by
 have ht:=KK p aa;have hf:=Ua p.root (dD p) size;refine pj func161 ntmps161 results161 ?_;refine ft ?_ ?_ ?_ ?_ ?_ ?_ ?_ ?_<;>first|(with_reducible exact True.intro)|intros
 all_goals clear ht hf
 all_goals first
  |(rw[show cC p size=(Pfx.zero,7) from by unfold cC;grind];exact aP.refl _)
  |(rw[show cC p size=(Pfx.zero,8) from by unfold cC;grind];exact aP.refl _)
  |(rw[show cC p size=((mT p.root (dD p) size).1,0) from by unfold cC;grind];exact aP.refl _)
@[go_sem] theorem fk (pre:List Pol)(r:List PV)(post:List Pol):(gh pre r post)[pre.length]? =some r:=by
 unfold gh;rw[XH (by simp[aG])];simp[aG]
@[go_sem] theorem a1j (pre:List Pol)(r r':List PV)(post:List Pol):(gh pre r post).set pre.length r'=gh pre r' post:=by
 unfold gh;rw[Yu _ _ (by simp[aG])];simp[aG]
def iX (l:Lse)(ls:List Lse):List Lse:=ls.take (j8 (fun x=>x.at_.at_) l.at_.at_ ls)++l::ls.drop (j8 (fun x=>x.at_.at_) l.at_.at_ ls)
theorem qY {α:Type}(key:α->Int)(t:Int)(l:List α):j8 key t l<=l.length:=List.findIdx_le_length
theorem WH (x:Lse)(t:Int):ai prog 240 [.agg (bt x),.v (.int .i64 t)] (.v (.int .i64 (eQ x.at_.at_ t))):=by
 have hc:=od x.at_.at_ t;refine pj func240 ntmps240 results240 ?_;exact bc
theorem Ni (pre post:List Pol)(p:Pol)(ls:List Lse):gh pre (aA p (.d (.sl 5 (ls.map bt)))) post=ab ((pre++{p with leases:=ls}::post).map an):=by
 simp only[gh,ab,Xo,Xm];rfl
theorem sH {P:Program}{m:Nat}(pre post:List Pol)(p:Pol)(g g2:Nat)(ls:List Lse):eS P 1 m [(0,.d (.tup []))] [.row 83 9 g (gh pre (aA p (.own 1 g2)) post),.row 96 5 g2 (ab (ls.map bt))] [(0,.d (.tup []))] [.row 83 9 g (ab ((pre++{p with leases:=ls}::post).map an)),.gone]:=by
 refine(av 1 g2 96 5 (ls.map bt) rfl).trans ?_;simp only[jq,fz,ij,gM,iS,gI,aT,bW,ce,Xm,Xr,XL,XK,reduceIte,and_true,true_and,and_self,and_false,false_and,XE,XT,reduceCtorEq,KL,aA];rw[<-Ni];exact bn rfl rfl
theorem VI (pre post:List Pol)(p:Pol)(l:Lse)(g g2:Nat)(hl:p.leases.length<=32)(hs:p.leases.Pairwise fun a b=>a.at_.at_ < b.at_.at_):
 MSpec prog 162 [.rp 0 g 9 pre.length 0,.d (.agg (bt l))] [.row 83 9 g (gh pre (aA p (.own 1 g2)) post),.row 96 5 g2 (ab (p.leases.map bt))] (.d (.tup [])) [.row 83 9 g (ab ((pre++{p with leases:=iX l p.leases}::post).map an)),.gone]:=by
 have Vn:=IU mw (fun x=>x.at_.at_) p.leases l.at_.at_ 240 [] aa hs (fun x _=>WH x l.at_.at_);have hle:=qY (fun x:Lse=>x.at_.at_) l.at_.at_ p.leases;have fS:=DY p.leases l (j8 (fun x:Lse=>x.at_.at_) l.at_.at_ p.leases) g2 hle aa;refine DM ag am func162 rfl ntmps162 results162 aJ (Xz _) (by simp[aq,au]) (by simp[aH,aR,jk,aq,au,aA,aC]) ?_;have z1z:=@aA.eq_1;have z2z:=Ln.mk (ls:=[1]) (fS);refine ap ?_<;>intros;refine eS.trans ?_ (sH pre post p g (g2+1) (iX l p.leases));exact wf (hb:=bz) (hbh:=bz)
def kV (p:Pol)(i:Nat)(tick:Int):List Lse:=if p.rule.cool=0 then p.leases.eraseIdx i else match p.leases[i]? with|some l=>p.leases.set i ⟨l.at_,3,0,tick+p.rule.cool⟩|none=>p.leases
theorem Qo (pre post:List Pol)(p:Pol)(i g g2:Nat)(tick:Int)(hi:i < p.leases.length)(hl:p.leases.length<=32)(Ay:0<=p.rule.cool/\p.rule.cool<=1024)(ht:0<=tick/\tick<=1073741824):
 MSpec prog 164 [.rp 0 g 9 pre.length 0,.d (.v (.int .i64 i)),.d (.v (.int .i64 tick))] [.row 83 9 g (gh pre (aA p (.own 1 g2)) post),.row 96 5 g2 (ab (p.leases.map bt))] (.d (.tup [])) [.row 83 9 g (ab ((pre++{p with leases:=kV p i tick}::post).map an)),.gone]:=by
 refine DM ag am func164 rfl ntmps164 results164 aJ (Xz _) (by simp[aq,au]) (by simp[aH,aR,jk,aq,au,aA,aC]) ?_;by_cases hc:p.rule.cool=0
 ·have gU:kV p i tick=p.leases.eraseIdx i:=by unfold kV;rw[aj hc]
  have db:=wi i aa;have hd:=DW (enc:=bt) p.leases i (i+1) g2 hi rfl;have Vi:(p.rule.cool==0)=true:=by simpa using hc
  rw[gU];replace gU:=Xj gU;replace hc:=Xj hc;have z1z:=@aA.eq_1;have z2z:=Ln.mk (ls:=[1]) (hd);refine ap ?_<;>intros;exact sH pre post p g (g2+1) (p.leases.eraseIdx i)
 ·have db:IntKind.i64.wrap (tick+p.rule.cool)=tick+p.rule.cool:=by rw[IntKind.wrap_i64];omega
  have Vi:(p.rule.cool==0)=false:=by simpa using hc
  obtain⟨l,Lt⟩:∃l,p.leases[i]? =some l:=⟨_,Xk hi⟩;have jc:=bU bt p.leases i ⟨l.at_,3,0,tick+p.rule.cool⟩;have gU:kV p i tick=p.leases.set i ⟨l.at_,3,0,tick+p.rule.cool⟩:=by unfold kV;rw[af hc,Lt]
  simp only[bt,Xm,Xr]at jc;rw[gU];replace gU:=Xj gU;have z1z:=@aA.eq_1;refine ap ?_<;>intros;exact sH pre post p g g2 (p.leases.set i ⟨l.at_,3,0,tick+p.rule.cool⟩)
def mz (p:Pol)(ps:List Pol):List Pol:=ps.take (j8 (fun x=>x.id) p.id ps)++p::ps.drop (j8 (fun x=>x.id) p.id ps)
theorem VJ (ps:List Pol)(p:Pol)(g:Nat)(tick:D)(h8:ps.length<=8)(hr:o0 ps)(ht:tick.one=true):
 MSpec prog 160 [.ptr 0 0,.d (.agg (an p))] [.box 30 [.d tick,.own 1 g],.row 83 9 g (ab (ps.map an))] (.d (.tup [])) [.box 30 [.d tick,.own 1 (g+1)],.row 83 9 (g+1) (ab ((mz p ps).map an))]:=by
 have Vn:=vA my (fun x=>x.id) ps p.id 234 [] aa hr (fun x _=>I7 x p.id);have hle:=qY (fun x:Pol=>x.id) p.id ps;have fS:=Gt ps p (j8 (fun x:Pol=>x.id) p.id ps) g hle aa;refine DM ag am func160 rfl ntmps160 results160 aJ (Xz _) (by simp[aq,au]) (by simp[aH,aR,aq,au,aC]) ?_;have z1z:=Ln.mk (ls:=[1]) (fS);refine ap ?_<;>intros;exact wf (hb:=bz) (hbh:=bz)
def iI (s:Ste):Int:=if br s.book≠0 then br s.book else if cN s.net≠0 then cN s.net else if (mo (xp s.book) s.net.vpcs&&decide (qh s.net.vpcs=(xp s.book).countP fun kv=>ip s.net.vpcs kv.2))=true then 0 else 1
theorem zu {α:Type}{enc:α->List D}(cU:∀x,(enc x).length=3)(p:α->Bool)(l:List α)(g:Nat)(caps:List D)(hl:l.length<=1000000000)(hc:∀x∈l,ai prog g (.agg (enc x)::caps) (.v (.bool (p x)))):
 ai prog 129 [.sl 3 (l.map enc),.clo g caps] (.v (.int .i64 (cv p l))):=by
 refine pj func129 ntmps129 results129 ?_;refine ap ?_<;>intros;refine bQ ag am (fun m e h=>∃k:Nat,k<=l.length/\(∀x∈l.take k,p x=false)/\m=l.length - k/\e=[(8,.d (.v (.int .i64 k))),(7,.d (.v (.int .i64 l.length))),(4,.d (.v (.int .i64 0))),(1,.d (.clo g caps)),(0,.d (.sl 3 (l.map enc)))]/\h=[]) _ _ _ ⟨0,XD _,by simp,rfl,rfl,rfl⟩ ?_ ?_
 ·exact a3J
 ·exact gt
theorem zw {α:Type}{enc:α->List D}(cU:∀x,(enc x).length=3)(p:α->Bool)(l:List α)(g:Nat)(caps:List D)(hl:l.length<=1000000000)(hc:∀x∈l,ai prog g (.agg (enc x)::caps) (.v (.bool (p x)))):
 ai prog 61 [.sl 3 (l.map enc),.clo g caps] (.v (.bool (l.any p))):=by
 have hi:=zu cU p l g caps hl hc;have jY:=gq p l;refine pj func61 ntmps61 results61 ?_;exact bc;all_goals exact aP.refl _
theorem Nj (v:Vpc)(o:Int):ai prog 62 [.agg (ax v),.ept [.v (.int .i64 o)]] (.v (.bool (v.id==o))):=by
 refine pj func62 ntmps62 results62 ?_;exact bc
theorem Gu (s:Ste)(hz:∀p∈s.book.pools,p.leases.length<=3518437208882):ai prog 30 [.agg (eR s)] (.v (.int .i64 (iI s))):=by
 have hb:=ou s.book hz;have hn:=zd s.net;obtain⟨R,hR⟩:∃R,R=iI s:=⟨_,rfl⟩;rw[<-hR];replace hR:=Xj hR;by_cases h1:br s.book=0
 ·rw[h1]at hb;by_cases h2:cN s.net=0
  ·rw[h2]at hn;have uF:R=if (mo (xp s.book) s.net.vpcs&&decide (qh s.net.vpcs=(xp s.book).countP fun kv=>ip s.net.vpcs kv.2))=true then 0 else 1:=by
    rw[hR.out];unfold iI;rw[af (by simpa using h1),af (by simpa using h2)]
   have De:=dJ h1;have hu:=Ln.mk (ls:=[]) (KD s.book (by have:=De.n8;omega) (fun p hp=>by have:=De.l32 p hp;omega));have hEl:=T3 De.l32;have hE8:=De.n8;have hEn:(xp s.book).length<=256:=Yy hEl (Yy (Yt 32 hE8) mR);have cg:=iq.1 h2;have H6:=cg.n6;have hvr:∀v∈s.net.vpcs,v.ranges.length<=4:=fun v hv=>(aY (cg.vp v hv)).n4;have S0:∀k,qh (s.net.vpcs.take k)<=24:=fun k=>Yy (T0 fun v hv=>hvr v (Yd hv)) (by rw[Xp];omega);clear De hEl hE8 cg;generalize xp s.book=E at*;replace uF:=Xj uF;replace hvr:=Xj hvr;replace S0:=Xj S0;clear h1 h2 hR;have gU:=Xj (⟨H6,hEn⟩:s.net.vpcs.length<=6/\E.length<=256);clear hEn;refine pj func30 ntmps30 results30 ?_;refine ap ?_;refine bf ag am s.net.vpcs (fun k=>mo E (s.net.vpcs.take k)=true) (fun k=>[(32,.d (.v (.int .i64 k))),(31,.d (.v (.int .i64 s.net.vpcs.length))),(30,.d (.sl 3 (s.net.vpcs.map ax))),(6,.d (.v (.int .i64 (qh (s.net.vpcs.take k):Nat)))),(5,.mref 2),(1,.ptr 0 0)])
    (fun _=>[.box 36 ((eR s).map .d),.gone,.mp 3 true E]) rfl wf ?_ ?_
   ·intro k v hv hk hI C hC;have eo:(k:Int) < (s.net.vpcs.length:Int):=aa;have db:=wi k aa;have pK:=Xj (M4 hv);have bp:=Xj (S0.out k);have hv4:=Xj (hvr.out v (Xl hv));have J5:=Xj hv;have hIx:=Xj hI;clear hI;generalize hNk:qh (s.net.vpcs.take k)=Nk at*;clear hNk;refine ap ?_;refine bf ag am v.ranges (fun j=>(v.ranges.take j).all (DR E v.id)=true) (fun j=>[(39,.d (.v (.int .i64 j))),(38,.d (.v (.int .i64 v.ranges.length))),(37,.d (.sl 3 (v.ranges.map bE))),(8,.ptr 3 0),(6,.d (.v (.int .i64 ((Nk+j:Nat):Int)))),(32,.d (.v (.int .i64 k))),(31,.d (.v (.int .i64 s.net.vpcs.length))),(30,.d (.sl 3 (s.net.vpcs.map ax))),(5,.mref 2),(1,.ptr 0 0)])
     (fun _=>[.box 36 ((eR s).map .d),.gone,.mp 3 true E,.box 88 ((ax v).map .d)]) rfl wf ?_ ?_
    ·intro j r hr hj hJ C2 j6;have lz:(j:Int) < (v.ranges.length:Int):=aa;have nI:IntKind.i64.wrap ((j:Int)+1)=((j+1:Nat):Int):=by have:=hv4.out;rw[IntKind.wrap_i64];omega
     have hwc:IntKind.i64.wrap (((Nk+j:Nat):Int)+1)=((Nk+(j+1):Nat):Int):=by have:=bp.out;have:=hv4.out;rw[IntKind.wrap_i64];omega
     have hrx:=Xj hr;have hJx:=Xj hJ;clear hJ;by_cases hq:DR E v.id r=true
     ·have e1:((lV E [r.at_.at_,r.at_.len,r.pool]).getD 0 !=v.id)=false:=by unfold DR at hq;simpa using hq
      have qD:=Xj hq;clear hq;refine ap ?_;exact j6 _ _ (by rw[ak hrx.out,Z5,hJx.out];simpa using qD.out) wf
     ·have e1:((lV E [r.at_.at_,r.at_.len,r.pool]).getD 0 !=v.id)=true:=by unfold DR at hq;simpa using hq
      have uE:R=1:=by
       rw[uF.out,af];intro h;rw[Xt]at h;have h3:=XA.1 (XA.1 h.1 v (Xl J5.out)) r (Xl hrx.out);exact hq h3
      rw[uE];replace hq:=Xj hq;exact bc
    ·intro hJ C2;rw[Xq]at hJ;replace hJ:=Xj hJ;refine ap ?_;exact hC _ _ (by unfold mo;rw[ak J5.out,Z5];have:=hIx.out;unfold mo at this;rw[this];simpa using hJ.out) (wf (hh:=by rfl) (he:=by rw[pK.out];repeat' (first|exact trivial|(refine⟨rfl,?_⟩))))
   ·intro hI C;rw[Xq]at hI ⊢;have a2S:=Xj (by have:=S0.out s.net.vpcs.length;rw[Xq]at this;exact this:qh s.net.vpcs<=24);have aQ:R=if qh s.net.vpcs=E.countP fun kv=>ip s.net.vpcs kv.2 then 0 else 1:=by
     rw[uF.out,hI,Ys];simp only[decide_eq_true_eq]
    replace aQ:=Xj aQ;clear hI;generalize qh s.net.vpcs=Nn at*;refine ap ?_;refine VE (fun m e h=>∃(seen:List Nat) (c:Int),seen.Nodup/\(∀i∈seen,i < E.length)/\m=Gk E.length seen/\c=(Nn:Int) - (seen.countP (mq E (ip s.net.vpcs)):Nat)/\seen.length<=E.length/\e=[(58,.ptr 3 0),(6,.d (.v (.int .i64 c))),(1,.ptr 0 0)]/\h=[.box 36 ((eR s).map .d),.gone,.gone,.it 3 true E seen]) _ _ _ ⟨[],(Nn:Int),List.nodup_nil,by simp,rfl,by simp,by simp,rfl,rfl⟩ wf ?_;rintro m e h ⟨seen,c,mM,hlt,hm,hc,hle,rfl,rfl⟩ C2 j6;replace hc:=Xj hc;replace hlt:=Xj hlt;refine Ks ag am (by rfl) (FW (k:=3) (x:= .tmp 58) ag ah rfl rfl rfl rfl rfl rfl mR mR rfl rfl ah ?_ ?_)
    ·intro bo;have mX:=P4 (p:=ip s.net.vpcs) mM hlt.out bo;by_cases hz:c=0
     ·have uE:R=0:=by rw[aQ.out,aj];have:=hc.out;omega
      rw[uE];subst hz;clear mX bo mM hm;change sC _ _ _ _ _ _ _ _ _ _;exact bc
     ·have uE:R=1:=by rw[aQ.out,af];have:=hc.out;omega
      have rT:(c !=0)=true:=by simpa using hz
      rw[uE];clear mX bo mM hm;replace hz:=Xj hz;change sC _ _ _ _ _ _ _ _ _ _;exact bc
    ·intro i hi hns;obtain⟨kv,Ly⟩:∃kv,E[i]? =some kv:=⟨_,Xk hi⟩;have hgl:(seen++[i]).getLast? =some i:=ah;have pK:=zw jI (fun v=>v.id==kv.2) s.net.vpcs 62 [.ept [.v (.int .i64 kv.2)]] (by have:=gU.out;omega) (fun v _=>Nj v kv.2);have hcp:=List.countP_le_length (p:=mq E (ip s.net.vpcs)) (l:=seen);have kG:(seen++[i]).Nodup:=by rw[_l];exact⟨mM,by simp,fun a ha b hb e=>hns (by simp at hb;subst hb;subst e;exact ha)⟩
     have Lt:∀j∈seen++[i],j < E.length:=fun j hj=>by
      rcases X0.1 hj with h|h
      ·exact hlt.out j h
      ·simp at h;omega
     have xV:=KE hi hns;have bN:(seen++[i]).length<=E.length:=by
      have:=(kG.length_le_of_subset (fun j hj=>YS.2 (Lt j hj)):(seen++[i]).length<=(X8 E.length).length);simpa using this
     have wb:(seen++[i]).countP (mq E (ip s.net.vpcs))=seen.countP (mq E (ip s.net.vpcs))+if ip s.net.vpcs kv.2 then 1 else 0:=by
      rw[List.countP_append];simp[mq,Ly]
     by_cases hb:ip s.net.vpcs kv.2=true
     ·have iO:(s.net.vpcs.any fun v=>v.id==kv.2)=true:=hb;rw[iO]at pK;rw[aj hb]at wb;have hwc:IntKind.i64.wrap (c - 1)=c - 1:=by have:=hc.out;have:=a2S.out;have:=gU.out;rw[IntKind.wrap_i64];omega
      have Ay:c - 1=(Nn:Int) - ((seen++[i]).countP (mq E (ip s.net.vpcs)):Nat):=by rw[wb];have:=hc.out;omega
      replace wb:=Xj wb;replace Ay:=Xj Ay;replace hb:=Xj hb;clear iO;replace kG:=Xj kG;replace Lt:=Xj Lt;replace xV:=Xj xV;replace bN:=Xj bN;change sC _ _ _ _ _ _ _ _ _ _;refine ap ?_;exact j6 _ _ _ _ _ (by rw[hm];exact xV.out) ⟨_,_,kG.out,Lt.out,rfl,Ay.out,bN.out,rfl,rfl⟩ wf
     ·have iO:(s.net.vpcs.any fun v=>v.id==kv.2)=false:=by simpa[ip]using hb
      rw[iO]at pK;rw[af hb]at wb;have Ay:c=(Nn:Int) - ((seen++[i]).countP (mq E (ip s.net.vpcs)):Nat):=by rw[wb];have:=hc.out;omega
      replace wb:=Xj wb;replace Ay:=Xj Ay;replace hb:=Xj hb;clear iO;replace kG:=Xj kG;replace Lt:=Xj Lt;replace xV:=Xj xV;replace bN:=Xj bN;change sC _ _ _ _ _ _ _ _ _ _;refine ap ?_;exact j6 _ _ _ _ _ (by rw[hm];exact xV.out) ⟨_,_,kG.out,Lt.out,rfl,Ay.out,bN.out,rfl,rfl⟩ wf
  ·have e2:(cN s.net !=0)=true:=by simpa using h2
   have uF:R=cN s.net:=by rw[hR.out];unfold iI;rw[af (by simpa using h1),aj h2]
   rw[uF];generalize cN s.net=X at*;refine pj func30 ntmps30 results30 ?_;exact bc
 ·have e2:(br s.book !=0)=true:=by simpa using h1
  have uF:R=br s.book:=by rw[hR.out];unfold iI;rw[aj h1]
  rw[uF];generalize br s.book=X at*;refine pj func30 ntmps30 results30 ?_;exact bc
def Bok.zero:Bok:=⟨0,[]⟩
theorem jt {b:Bok}{id:Int}{q:Pol}(h:bK b id=some q):∃i:Nat,b.pools[i]? =some q/\q.id=id:=by
 have h1:=Zs h;have h2:=YE h;obtain⟨i,hi,rfl⟩:=X3.1 h2;exact⟨i,Xk hi,by simpa using h1⟩
theorem lP {b:Bok}{id:Int}{q:Pol}(h:bK b id=some q):∃pre post,b.pools=pre++q::post/\q.id=id:=by
 obtain⟨i,hi,he⟩:=jt h;obtain⟨hlt,rfl⟩:=Xn.1 hi;exact⟨b.pools.take i,b.pools.drop (i+1),by rw[F',YK],he⟩
def pu (b:Bok)(id:Int)(root:Pfx)(r:Rul):Int:=
 if dV id=false\/chk root.at_ root.len≠0 then 3 else
 if (bK b id).isSome=true\/(b.pools.any fun p=>(p.up==0)&&p.root.meets root)=true then 6 else
 if fZ r root.len=false then 1 else if b.pools.length=8 then 2 else 0
def gu (b:Bok)(id:Int)(root:Pfx)(r:Rul):Bok × Int:=
 if br b≠0 then (Bok.zero,br b)else if pu b id root r≠0 then (Bok.zero,pu b id root r)else (⟨b.tick,mz ⟨id,0,root,r,[]⟩ b.pools⟩,0)
theorem Uf (p:Pol)(root:Pfx):ai prog 159 [.agg (an p),.ept (aS root)] (.v (.bool ((p.up==0)&&p.root.meets root))):=by
 have hm:=qV p.root root;refine pj func159 ntmps159 results159 ?_;exact bc
theorem WI (b:Bok)(id:Int)(root:Pfx)(r:Rul)(hz:∀p∈b.pools,p.leases.length<=3518437208882):ai prog 92 [.agg (bq b),.v (.int .i64 id),.agg (aS root),.agg (xj r)] (.tup [.agg (bq (gu b id root r).1),.v (.int .i64 (gu b id root r).2)]):=by
 by_cases hc:br b=0
 ·have cf:=dJ hc;have cT:=kz b hz hc;have hid:=Cy id;have bp:=qU root;have pK:=M5 my (fun p=>(p.up==0)&&p.root.meets root) b.pools 159 [.ept (aS root)] (by have:=cf.n8;omega) (fun p _=>Uf p root);have By:=I5 r root;have hpt:=(VJ b.pools ⟨id,0,root,r,[]⟩ b.pools.length (.v (.int .i64 b.tick)) cf.n8 cf.rise rfl).lep (args':=[.ptr 0 0,.d (.agg [.v (.int .i64 id),.v (.int .i64 0),.v (.int .i64 root.at_),.v (.int .i64 root.len),.v (.int .i64 r.min),.v (.int .i64 r.max),.v (.int .i64 r.usual),.v (.int .i64 r.cool),.v (.slice none 0 0)])]) ⟨.inl rfl,.inr ⟨_,_,rfl,rfl,dg⟩,trivial⟩ rfl;obtain⟨R,hR⟩:∃R,R=gu b id root r:=⟨_,rfl⟩;rw[<-hR];replace hR:=Xj hR;cases hq:bK b id with
  |none=>
   have hf:=o3 b id (by have:=cf.n8;omega) cf.rise;unfold qn at hf;rw[hq]at hf;refine pj func92 ntmps92 results92 ?_;have z1z:=Ln.mk (ls:=[]) (cT);have z2z:=Lm.mk (Ln.mk (ls:=[6,7]) (hpt));refine ft ?_ ?_ ?_ ?_ ?_ ?_ ?_ ?_<;>first|(with_reducible exact True.intro)|intros
   all_goals clear hf hid bp pK By cT hpt hz
   all_goals first
    |(rw[show R=(Bok.zero,3) from (by rw[hR.out];unfold gu pu;grind)];(try simp only[Xo,Xm]);exact dg)
    |(rw[show R=(Bok.zero,6) from (by rw[hR.out];unfold gu pu;grind)];(try simp only[Xo,Xm]);exact dg)
    |(rw[show R=(Bok.zero,1) from (by rw[hR.out];unfold gu pu;grind)];(try simp only[Xo,Xm]);exact dg)
    |(rw[show R=(Bok.zero,2) from (by rw[hR.out];unfold gu pu;grind)];(try simp only[Xo,Xm]);exact dg)
    |(rw[show R=(⟨b.tick,mz ⟨id,0,root,r,[]⟩ b.pools⟩,0) from (by rw[hR.out];unfold gu pu;grind)];(try simp only[Xo,Xm]);exact dg)
  |some q=>
   obtain⟨i,Vl,rfl⟩:=jt hq;have hf:=DZ b i q b.pools.length (ab (b.pools.map an)) [] (.d (.v (.int .i64 b.tick))) Vl cf.rise cf.n8 (by simp[aG]) (eO _ _ _) (aC _ _) rfl rfl;replace Vl:=Xj Vl;refine pj func92 ntmps92 results92 ?_;have z1z:=Ln.mk (ls:=[]) (cT);have z2z:=Ln.mk (ls:=[6,7]) (hf);refine ft ?_ ?_ ?_ ?_ ?_ ?_ ?_ ?_<;>first|(with_reducible exact True.intro)|intros
   all_goals clear hf hid bp pK By cT hpt hz
   all_goals first
    |(rw[show R=(Bok.zero,3) from (by rw[hR.out];unfold gu pu;grind)];(try simp only[Xo,Xm]);exact dg)
    |(rw[show R=(Bok.zero,6) from (by rw[hR.out];unfold gu pu;grind)];(try simp only[Xo,Xm]);exact dg)
 ·have cT:=oy b hz hc;have hr:gu b id root r=(Bok.zero,br b):=by unfold gu;rw[aj hc]
  have h1:(br b !=0)=true:=by simpa using hc
  rw[hr];replace hr:=Xj hr;refine pj func92 ntmps92 results92 ?_;refine ap ?_<;>intros;exact dg
end Go.Proofs.YtojojebildofnaaGreatDoor
