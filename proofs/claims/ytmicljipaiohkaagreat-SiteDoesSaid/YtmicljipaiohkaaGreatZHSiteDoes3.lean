/- Texts of this work, joined. -/
import Derived.Test.YtmicljipaiohkaaGreatZHSiteDoes2
import Derived.Shelf.Slices.SearchI
import Derived.IntWalk
import Derived.RangeFuncNested
import Derived.RangeFuncBound
import Derived.RangeFuncCalls
import Derived.RangeFuncLeaves
import Derived.Shelf.Abstract
import Derived.Shelf.RegionOpen
import Derived.OwnWalkIn
import Derived.TacticsInMore
import Derived.LoopNIn
import Derived.LoopIn
set_option linter.unusedSimpArgs false
set_option linter.unusedVariables false
set_option maxRecDepth 100000
set_option maxHeartbeats 16000000
namespace Go.Proofs.YtmicljipaiohkaaGreat
open Go Go.RowKit Go.Proofs.Tryz
open Go.Lib renaming hid → Xj
open _root_.List renaming getElem?_eq_getElem → Xk, mem_of_getElem? → Xl, map_cons → Xm, getElem?_eq_some_iff → Xn, map_append → Xo, setIfInBounds_toArray → Xp, length_take → Xq, take_length → Xt, set_cons_zero → Xu, map_nil → Xv, set_cons_succ → Xx, getElem?_map → Xz, length_cons → XA, all_eq_true → XC, length_map → XD, pairwise_iff_getElem → XF, getElem?_append_right → XH, findIdx?_eq_some_iff_getElem → XI, length_drop → XJ, take_of_length_le → XN, mem_map → XQ, getElem?_take_of_lt → XS, getElem?_eq_none → XT, any_eq_true → XU, replicate → XV, length_append → XY, length_nil → XZ, mem_iff_getElem → X0, getElem?_append_left → X2, mem_append → X3, append_assoc → X4, range → X5, mem_cons → X7, cons_append → X8, eq_nil_of_length_eq_zero → X9, nil_append → Ya, mem_singleton → Yc, mem_of_mem_drop → Yd, mem_of_mem_take → Yf, take → Yg, any_eq_false → Yh, getElem_mem → Ym, findIdx?_eq_none_iff → Yn, find?_eq_none → Yq, set_append_right → Yu, append_nil → Yw, pairwise_cons → YC, mem_of_find?_eq_some → YF, size_toArray → YH, foldl_cons → YO, drop_eq_getElem_cons → YQ, mem_range → YR, pairwise_append → YT, take_append_drop → YX, filter_eq_self → Y0, all_eq_false → Y2, pairwise_map → Y3, drop_length → Y7, mem_map_of_mem → Y8, length_filter_le → Za, length_pos_iff → Zd, find?_some → Zh, filter_filter → Zi, foldl_append → Zn, flatMap_append → Zs, mem_filter → Zt, getElem_take → ZA, append_toArray → ZD, map_take → ZH, contains_iff_mem → ZL, all_append → ZO, mem_append_left → ZP, push_toArray → ZS, filter_congr → Z2, getElem_map → A', nodup_append → N', take_sublist → O'
open Go.World renaming size_alloc → Xr, heap_drewN → Xs, size_drew → Xw, cell? → YS, cell?_of_block → Zl
open _root_.Bool renaming and_eq_true → Xy, eq_iff_iff → Yi, and_self → Yp, true_and → Yr, and_true → YA, false_eq_true → YB, eq_false_iff → YE, or_eq_false_iff → Zm, not_eq_true' → Zz, not_eq_true → ZI, and_eq_false_iff → ZK, false_or → ZT, and_assoc → P'
open _root_.Nat renaming le_refl → XB, zero_le → XE, zero_add → XG, reduceAdd → XM, lt_or_ge → XP, add_zero → XW, sub_zero → Yo, lt_of_lt_of_le → Yy, le_trans → Yz, sub_self → YG, not_lt_zero → YJ, lt_trichotomy → Zb, min_self → Zq, add_assoc → ZF, eq_zero_or_pos → ZJ, div_add_mod → ZN, add_mul → ZQ, reduceLT → ZR, le_of_lt → p', reduceSub → D', lt_or_eq_of_le → G', le_of_lt_succ → Q', one_le_two_pow → Z', not_lt → _g
open _root_.Option renaming map_eq_some_iff → XO, isSome_some → XR, some → XX, map_some → Ye, isNone_some → YD, isSome_none → YZ, isSome_iff_exists → Zf, map_none → Zg, isNone_none → Zk
open _root_.Int renaming dvd_of_emod_eq_zero → YL, lt_irrefl → YN, emod_eq_zero_of_dvd → ZB, le_refl → ZG, fdiv_eq_ediv_of_nonneg → Z5, lt_or_le → z', dvd_trans → C', max_eq_right → _e, max_eq_left → _i
open _root_.Array renaming getElem?_eq_none → YM, getElem?_eq_getElem → YP, replicate → Y5, replicate_succ → Zx, replicate_zero → Zy
def kT (at_:Pfx)(f:Fce):Bool:=cI f.id&&(!((f.addrs.length:Int)==0)&&(fh (fun x=>x) f.addrs&&f.addrs.all (iW at_)))
def dG (s:Sbn):Bool:=s.faces.all (kT s.at_)&&(decide (s.faces.flatMap (·.addrs)).Nodup&&fh (·.id) s.faces)
theorem KF (n:Int):af prog 233 [.v (.int .i64 n)] (.v (.int .i64 n)):=by
 refine pj func233 ntmps233 results233 ?_;exact bc
theorem KH (f:Fce):af prog 235 [.agg (cj f)] (.v (.int .i64 f.id)):=by
 refine pj func235 ntmps235 results235 ?_;exact bc
def QQ (ents:List (List Int × Int))(done:List Int):Prop:=∀a,kF ents [a]=if a∈done then some 1 else none
theorem Gq:QQ [] []:=fun a=>by simp[kF]
theorem Cs {ents:List (List Int × Int)}{done:List Int}(h:QQ ents done){a:Int}(ha:a∉done):QQ (l9 ents [a] 1) (done++[a]):=by
 intro b;rw[gX,h b];by_cases hb:a=b
 ·subst hb;simp
 ·have hb':¬b=a:=fun e=>hb e.symm;simp[hb,hb']
theorem p7 {l:List Int}{a:Int}:(l++[a]).Nodup↔l.Nodup∧a∉l:=by
 rw[N'];simp;intro _;constructor
 ·intro h hm;exact h a hm rfl
 ·intro h b hb e;subst e;exact h hb
theorem At (s:Sbn)(h8:s.faces.length≤8)(h4:∀f∈s.faces,f.addrs.length≤4):af prog 185 [.agg (aT s)] (.v (.bool (dG s))):=by
 have G5:=EP vt (·.id) s.faces 235 (by omega) (fun f _=>KH f);refine pj func185 ntmps185 results185 ?_;refine am ?_<;>intros;refine bL ae ak (fun m e h=>∃(k:Nat) (ents:List (List Int × Int)),k≤s.faces.length∧QQ ents ((s.faces.take k).flatMap (·.addrs))∧((s.faces.take k).flatMap (·.addrs)).Nodup∧(∀f∈s.faces.take k,kT s.at_ f=true)∧m=s.faces.length - k∧
  e=[(12,.d (.v (.int .i64 k))),(11,.d (.v (.int .i64 s.faces.length))),(10,.d (.sl 2 (s.faces.map cj))),(3,.mref 1),(2,.d (.v (.bool false))),(1,.ptr 0 0)]∧h=[.box 71 ((aT s).map .d),.mp 1 false ents]) _ _ _ ⟨0,[],XE _,Gq,List.nodup_nil,fun f h=>by simp at h,rfl,rfl,rfl⟩ (wf) ?_
 rintro m e h ⟨k,ents,hk,pr,lm,bP,hm,rfl,rfl⟩ C hC;by_cases hlt:k < s.faces.length
 ·have dM:(k:Int) < (s.faces.length:Int):=by omega
  have cR:=wi k (by omega);obtain⟨f,hf⟩:∃f,s.faces[k]? =some f:=⟨_,Xk hlt⟩;have D0:=Xl hf;have hid:=kR f.id;have xr:=H7 f.addrs 233 (by have:=h4 f D0;omega) KF;have gY:=h4 f D0;have bI:kT s.at_ f=false→dG s=false:=fun h=>by
   unfold dG;rw[ZK];left;rw[Y2];exact⟨f,D0,by rw[h];simp⟩
  replace bI:=Xj bI;replace hm:=Xj hm;replace pr:=Xj pr;replace lm:=Xj lm;replace bP:=Xj bP;have FL:kT s.at_ f=(cI f.id&&(!((f.addrs.length:Int)==0)&&(fh (fun x=>x) f.addrs&&f.addrs.all (iW s.at_)))):=rfl;replace FL:=Xj FL;cases b1:cI f.id with
  |false=>
   rw[b1]at hid;refine am ?_<;>intros;all_goals(rw[bI.out (by rw[FL.out,b1];rfl)];exact ai.refl _)
  |true=>
  rw[b1]at hid;cases b2:(f.addrs.length:Int)==0 with
  |true=>
   refine am ?_<;>intros;all_goals(rw[bI.out (by rw[FL.out,b1,b2];rfl)];exact ai.refl _)
  |false=>
  cases b3:fh (fun x=>x) f.addrs with
  |false=>
   rw[b3]at xr;refine am ?_<;>intros;all_goals(rw[bI.out (by rw[FL.out,b1,b2,b3];rfl)];exact ai.refl _)
  |true=>
  rw[b3]at xr;refine am ?_<;>intros;refine bL ae ak (fun m e h=>∃(j:Nat) (ents:List (List Int × Int)),j≤f.addrs.length∧QQ ents ((s.faces.take k).flatMap (·.addrs)++f.addrs.take j)∧((s.faces.take k).flatMap (·.addrs)++f.addrs.take j).Nodup∧(∀a∈f.addrs.take j,iW s.at_ a=true)∧m=f.addrs.length - j∧
   e=[(35,.d (.v (.int .i64 j))),(34,.d (.v (.int .i64 f.addrs.length))),(33,.d (.sl 1 (f.addrs.map cy))),(12,.d (.v (.int .i64 k))),(11,.d (.v (.int .i64 s.faces.length))),(10,.d (.sl 2 (s.faces.map cj))),(3,.mref 1),(2,.d (.v (.bool false))),(1,.ptr 0 0)]∧h=[.box 71 ((aT s).map .d),.mp 1 false ents]) _ _ _ ⟨0,ents,XE _,by simpa using pr.out,by simpa using lm.out,fun f h=>by simp at h,rfl,rfl,rfl⟩ (wf) ?_
  rintro m2 e h ⟨j,en2,hj,ja,xb,xc,gZ,rfl,rfl⟩ C2 jI;by_cases pm:j < f.addrs.length
  ·have ip:(j:Int) < (f.addrs.length:Int):=by omega
   have kj:=wi j (by omega);obtain⟨a,ha⟩:∃a,f.addrs[j]? =some a:=⟨_,Xk pm⟩;have Uq:=Xl ha;have dE:=Gn s.at_ a;have RG:=ja a;have g7:f.addrs.take (j+1)=f.addrs.take j++[a]:=ag ha;replace g7:=Xj g7;replace gZ:=Xj gZ;replace xc:=Xj xc;replace xb:=Xj xb;by_cases hd:a∈(s.faces.take k).flatMap (·.addrs)++f.addrs.take j
   ·rw[if_pos hd]at RG;have hr:dG s=false:=by
     have:¬(s.faces.flatMap (·.addrs)).Nodup:=by
      intro hn;have wY:((s.faces.take k).flatMap (·.addrs)++f.addrs.take (j+1)).Sublist (s.faces.flatMap (·.addrs)):=by
       conv=>rhs;rw[←YX k s.faces,jS hf,Zs,List.flatMap_cons]
       exact List.Sublist.append (List.Sublist.refl _) ((O' _ _).trans (List.sublist_append_left _ _))
      have:=wY.nodup hn;rw[g7.out,←X4,p7]at this;exact this.2 hd
     unfold dG;simp[this]
    have go:kF (l9 en2 [a] 2) [a]=some 2:=by rw[gX,if_pos rfl]
    replace ja:=Xj ja;have cD:IntKind.i64.wrap 2=2:=by decide
    have hgt:decide ((2:Int)>1)=true:=rfl;exact bc;all_goals(rw[hr];exact ai.refl _)
   ·rw[if_neg hd]at RG;have go:kF (l9 en2 [a] 1) [a]=some 1:=by rw[gX,if_pos rfl]
    have fq:=Cs ja hd;replace ja:=Xj ja;replace fq:=Xj fq;have cD:IntKind.i64.wrap 1=1:=by decide
    have hgt:decide ((1:Int)>1)=false:=rfl;cases b4:iW s.at_ a with
    |false=>
     rw[b4]at dE;have hr:dG s=false:=bI.out (by
      rw[FL.out,b1,b2,b3];have:f.addrs.all (iW s.at_)=false:=by rw[Y2];exact⟨a,Uq,by rw[b4];simp⟩
      rw[this];rfl)
     exact bc;all_goals(rw[hr];exact ai.refl _)
    |true=>
     rw[b4]at dE;refine am ?_<;>intros;refine jI _ _ _ _ _ ?_ ⟨j+1,l9 en2 [a] 1,pm,?_,?_,?_,rfl,rfl,rfl⟩ (wf)
     ·have:=gZ.out;omega
     ·rw[g7.out,←X4];exact fq.out
     ·rw[g7.out,←X4,p7];exact⟨xb.out,hd⟩
     ·intro b hb;rw[g7.out]at hb;rcases X3.1 hb with hb|hb
      ·exact xc.out b hb
      ·rw[Yc.1 hb];exact b4
  ·obtain rfl:j=f.addrs.length:=by omega
   rw[Xt]at ja xb xc;have uq:(s.faces.take (k+1)).flatMap (·.addrs)=(s.faces.take k).flatMap (·.addrs)++f.addrs:=by rw[ag hf,Zs];simp
   replace gZ:=Xj gZ;replace ja:=Xj ja;replace xb:=Xj xb;replace xc:=Xj xc;replace uq:=Xj uq;refine am ?_<;>intros;refine hC _ _ _ _ _ ?_ ⟨k+1,en2,hlt,?_,?_,?_,rfl,rfl,rfl⟩ (wf)
   ·have:=hm.out;omega
   ·rw[uq.out];exact ja.out
   ·rw[uq.out];exact xb.out
   ·intro g hg;rw[ag hf]at hg;rcases X3.1 hg with hg|hg
    ·exact bP.out g hg
    ·rw[Yc.1 hg,FL.out,b1,b2,b3];simp only[Yr,Bool.not_false];exact XC.2 xc.out
 ·obtain rfl:k=s.faces.length:=by omega
  rw[Xt]at pr lm bP;have hr:dG s=fh (·.id) s.faces:=by
   unfold dG;rw[XC.2 bP];simp[lm]
  replace hr:=Xj hr;replace pr:=Xj pr;replace lm:=Xj lm;replace bP:=Xj bP;replace hm:=Xj hm;refine am ?_<;>intros;all_goals(rw[hr.out];exact ai.refl _)
def eB (r:Rng):Bool:=cI r.pool&&(chk r.at_.at_ r.at_.len==0)
def mq (v:Vpc)(s:Sbn):Bool:=cI s.id&&(fF v s.at_&&dG s)
def pF (v:Vpc):Bool:=(cI v.id&&(fh (·.at_.at_) v.ranges&&fh (·.id) v.subs))&&(v.ranges.all eB&&v.subs.all (mq v))
def bN (v:Vpc):Int:=if kS v then 2 else if pF v&&(gA [] (v.ranges.map (·.at_))&&gA [] (v.subs.map (·.at_)))then 0 else 1
theorem H8 (r:Rng):af prog 182 [.agg (bp r)] (.v (.int .i64 r.at_.at_)):=by
 refine pj func182 ntmps182 results182 ?_;exact bc
theorem H9 (s:Sbn):af prog 184 [.agg (aT s)] (.v (.int .i64 s.id)):=by
 refine pj func184 ntmps184 results184 ?_;exact bc
theorem kU {α:Type}{p:α→Bool}{l:List α}{k:Nat}{x:α}(h:l[k]? =some x):(l.take (k+1)).all p=((l.take k).all p&&p x):=by
 rw[ag h,ZO];simp
theorem ot (v:Vpc):af prog 97 [.agg (al v)] (.v (.int .i64 (bN v))):=by
 have sZ:=QP v;cases hm:kS v with
 |true=>
  rw[hm]at sZ;have hr:bN v=2:=by unfold bN;rw[if_pos hm]
  rw[hr];refine pj func97 ntmps97 results97 ?_;exact bc
 |false=>
 obtain⟨h4,h6,h8⟩:=vH hm;rw[hm]at sZ;have hid:=kR v.id;have r5:=Cr mf (fun r:Rng=>r.at_.at_) v.ranges 182 (by omega) (fun r _=>H8 r);have ki:=H6 me (fun s:Sbn=>s.id) v.subs 184 (by omega) (fun r _=>H9 r);obtain⟨F0,RH⟩:∃F0,F0=(cI v.id&&(fh (·.at_.at_) v.ranges&&fh (·.id) v.subs)):=⟨_,rfl⟩;have Ba:=Gp (v.ranges.map (·.at_)) (by rw[XD];omega);have Bb:=Gp (v.subs.map (·.at_)) (by rw[XD];omega);have qo:bN v=if (F0&&v.ranges.all eB&&v.subs.all (mq v))&&(gA [] (v.ranges.map (·.at_))&&gA [] (v.subs.map (·.at_)))then 0 else 1:=by
  unfold bN pF;rw[if_neg (by simp[hm]),RH];simp only[P']
 rw[qo];replace qo:=Xj qo;replace h8:=Xj h8;replace hm:=Xj hm;replace sZ:=Xj sZ;cases b1:cI v.id with
 |false=>
  rw[b1,Bool.false_and]at RH;subst RH;rw[b1]at hid;refine pj func97 ntmps97 results97 ?_;have z1z:=sZ.out;have z2z:=sZ.out;refine am ?_<;>intros;refine bL ae ak (fun m e h=>∃(k g:Nat) (X:Bool),k≤v.ranges.length∧X=(false&&(v.ranges.take k).all eB)∧m=v.ranges.length - k∧e=[(28,.d (.v (.int .i64 k))),(27,.d (.v (.int .i64 v.ranges.length))),(26,.d (.sl 3 (v.ranges.map bp))),(5,.d (.v (.bool X))),(4,.d (.v (.slice none 0 0))),(3,.own 1 g),(2,.d (.v (.int .i64 0))),(1,.ptr 0 0)]∧
   h=[.box 55 ((al v).map .d),.row 32 2 g (ab (((v.ranges.take k).map (·.at_)).map aN))]) _ _ _ ⟨0,0,false,XE _,by simp,rfl,rfl,rfl⟩ ((dr (XE _) 3 32 2 rfl).trans (wf)) ?_
  rintro m e h ⟨k,g,X,hk,hX,hm0,rfl,rfl⟩ C hC;by_cases hlt:k < v.ranges.length
  ·have dM:(k:Int) < (v.ranges.length:Int):=by omega
   have cR:=wi k (by omega);obtain⟨r,hr⟩:∃r,v.ranges[k]? =some r:=⟨_,Xk hlt⟩;have DW:=kR r.pool;have TD:=qZ r.at_;have jc:(Yg k v.ranges).length=k:=by rw[Xq];omega
   have rS:(k+1)*16≤140737488355328:=by omega
   have pn:=kU (p:=eB) hr;have pt:eB r=(cI r.pool&&(chk r.at_.at_ r.at_.len==0)):=rfl;generalize chk r.at_.at_ r.at_.len=K at*;generalize cI r.pool=I at*;replace hX:=Xj hX;replace pn:=Xj pn;replace pt:=Xj pt;replace hm0:=Xj hm0;replace hr:=Xj hr;have TE:=hr.out;refine Aq ?_ ?_ ?_<;>intros;all_goals(refine hC _ _ _ _ _ ?_ ⟨k+1,g+1,_,hlt,?_,rfl,rfl,rfl⟩ (wf (hh:=(by rw[ag hr.out];simp only[al,Xo,Xm,Xv,aN,←aI];rfl))))
   all_goals first
    |(have:=hm0.out;omega)
    |(have h1:=hX.out;have h2:=pn.out;have h3:=pt.out;clear Ba Bb r5 ki hid DW TD hC sZ;grind)
  ·obtain rfl:k=v.ranges.length:=by omega
   rw[Xt]at hX ⊢;replace hX:=Xj hX;replace hm0:=Xj hm0;refine am ?_<;>intros;refine bL ae ak (fun m e h=>∃(k g2:Nat) (Y:Bool),k≤v.subs.length∧Y=(X&&(v.subs.take k).all (mq v))∧m=v.subs.length - k∧e=[(53,.d (.v (.int .i64 k))),(52,.d (.v (.int .i64 v.subs.length))),(51,.d (.sl 4 (v.subs.map aT))),(5,.d (.v (.bool Y))),(4,.own 2 g2),(3,.own 1 g),(2,.d (.v (.int .i64 0))),(1,.ptr 0 0)]∧
    h=[.box 55 ((al v).map .d),.row 32 2 g (ab ((v.ranges.map (·.at_)).map aN)),.row 32 2 g2 (ab (((v.subs.take k).map (·.at_)).map aN))]) _ _ _ ⟨0,0,X,XE _,by simp,rfl,rfl,rfl⟩ ((dr (XE _) 4 32 2 rfl).trans (wf)) ?_
   rintro m2 e h ⟨k,g2,Y,i7,hY,gZ,rfl,rfl⟩ C hC;by_cases hlt:k < v.subs.length
   ·have dM:(k:Int) < (v.subs.length:Int):=by omega
    have cR:=wi k (by omega);obtain⟨s,hs⟩:∃s,v.subs[k]? =some s:=⟨_,Xk hlt⟩;have lN:=Xl hs;have Ei:=kR s.id;have Qh:=rf v s.at_ (by omega);have TF:=At s (h8.out s lN).1 (h8.out s lN).2;have jc:(Yg k v.subs).length=k:=by rw[Xq];omega
    have rS:(k+1)*16≤140737488355328:=by omega
    have pn:=kU (p:=mq v) hs;have yg:mq v s=(cI s.id&&(fF v s.at_&&dG s)):=rfl;generalize fF v s.at_=H at*;generalize cI s.id=I at*;generalize dG s=F at*;replace hY:=Xj hY;replace pn:=Xj pn;replace yg:=Xj yg;replace gZ:=Xj gZ;replace hs:=Xj hs;have TG:=hs.out;refine Sk ?_ ?_ ?_ ?_<;>intros;all_goals(refine hC _ _ _ _ _ ?_ ⟨k+1,g2+1,_,hlt,?_,rfl,rfl,rfl⟩ (wf (hh:=(by rw[ag hs.out];simp only[al,Xo,Xm,Xv,aN,←aI];rfl))))
    all_goals first
     |(have:=gZ.out;omega)
     |(have h1:=hY.out;have h2:=pn.out;have h3:=yg.out;clear Ba Bb r5 ki hid Ei Qh TF hC sZ;grind)
   ·obtain rfl:k=v.subs.length:=by omega
    rw[Xt]at hY ⊢;replace hY:=Xj hY;replace gZ:=Xj gZ;have RI:gA [] (v.ranges.map (·.at_))=gA [] (v.ranges.map (·.at_)):=rfl;generalize Qi:gA [] (v.ranges.map (·.at_))=A1 at*;generalize JA:gA [] (v.subs.map (·.at_))=A2 at*;replace Qi:=Xj Qi;replace JA:=Xj JA;clear RI;refine am ?_<;>intros;all_goals
     have h1:=hX.out;have h2:=hY.out;clear Ba Bb r5 ki hid hC sZ;first
      |exact ai.refl _
      |(rw[if_pos (by grind)];exact ai.refl _)
      |(rw[if_neg (by grind)];exact ai.refl _)
      |(exfalso;grind)
 |true=>
  rw[b1]at hid;cases b2:fh (fun r:Rng=>r.at_.at_) v.ranges with
  |false=>
   rw[b1,b2,Bool.false_and,Bool.and_false]at RH;subst RH;rw[b2]at r5;refine pj func97 ntmps97 results97 ?_;have z1z:=sZ.out;refine am ?_<;>intros;refine bL ae ak (fun m e h=>∃(k g:Nat) (X:Bool),k≤v.ranges.length∧X=(false&&(v.ranges.take k).all eB)∧m=v.ranges.length - k∧e=[(28,.d (.v (.int .i64 k))),(27,.d (.v (.int .i64 v.ranges.length))),(26,.d (.sl 3 (v.ranges.map bp))),(5,.d (.v (.bool X))),(4,.d (.v (.slice none 0 0))),(3,.own 1 g),(2,.d (.v (.int .i64 0))),(1,.ptr 0 0)]∧
    h=[.box 55 ((al v).map .d),.row 32 2 g (ab (((v.ranges.take k).map (·.at_)).map aN))]) _ _ _ ⟨0,0,false,XE _,by simp,rfl,rfl,rfl⟩ ((dr (XE _) 3 32 2 rfl).trans (wf)) ?_
   rintro m e h ⟨k,g,X,hk,hX,hm0,rfl,rfl⟩ C hC;by_cases hlt:k < v.ranges.length
   ·have dM:(k:Int) < (v.ranges.length:Int):=by omega
    have cR:=wi k (by omega);obtain⟨r,hr⟩:∃r,v.ranges[k]? =some r:=⟨_,Xk hlt⟩;have DW:=kR r.pool;have TD:=qZ r.at_;have jc:(Yg k v.ranges).length=k:=by rw[Xq];omega
    have rS:(k+1)*16≤140737488355328:=by omega
    have pn:=kU (p:=eB) hr;have pt:eB r=(cI r.pool&&(chk r.at_.at_ r.at_.len==0)):=rfl;generalize chk r.at_.at_ r.at_.len=K at*;generalize cI r.pool=I at*;replace hX:=Xj hX;replace pn:=Xj pn;replace pt:=Xj pt;replace hm0:=Xj hm0;replace hr:=Xj hr;have TE:=hr.out;refine Aq ?_ ?_ ?_<;>intros;all_goals(refine hC _ _ _ _ _ ?_ ⟨k+1,g+1,_,hlt,?_,rfl,rfl,rfl⟩ (wf (hh:=(by rw[ag hr.out];simp only[al,Xo,Xm,Xv,aN,←aI];rfl))))
    all_goals first
     |(have:=hm0.out;omega)
     |(have h1:=hX.out;have h2:=pn.out;have h3:=pt.out;clear Ba Bb r5 ki hid DW TD hC sZ;grind)
   ·obtain rfl:k=v.ranges.length:=by omega
    rw[Xt]at hX ⊢;replace hX:=Xj hX;replace hm0:=Xj hm0;refine am ?_<;>intros;refine bL ae ak (fun m e h=>∃(k g2:Nat) (Y:Bool),k≤v.subs.length∧Y=(X&&(v.subs.take k).all (mq v))∧m=v.subs.length - k∧e=[(53,.d (.v (.int .i64 k))),(52,.d (.v (.int .i64 v.subs.length))),(51,.d (.sl 4 (v.subs.map aT))),(5,.d (.v (.bool Y))),(4,.own 2 g2),(3,.own 1 g),(2,.d (.v (.int .i64 0))),(1,.ptr 0 0)]∧
     h=[.box 55 ((al v).map .d),.row 32 2 g (ab ((v.ranges.map (·.at_)).map aN)),.row 32 2 g2 (ab (((v.subs.take k).map (·.at_)).map aN))]) _ _ _ ⟨0,0,X,XE _,by simp,rfl,rfl,rfl⟩ ((dr (XE _) 4 32 2 rfl).trans (wf)) ?_
    rintro m2 e h ⟨k,g2,Y,i7,hY,gZ,rfl,rfl⟩ C hC;by_cases hlt:k < v.subs.length
    ·have dM:(k:Int) < (v.subs.length:Int):=by omega
     have cR:=wi k (by omega);obtain⟨s,hs⟩:∃s,v.subs[k]? =some s:=⟨_,Xk hlt⟩;have lN:=Xl hs;have Ei:=kR s.id;have Qh:=rf v s.at_ (by omega);have TF:=At s (h8.out s lN).1 (h8.out s lN).2;have jc:(Yg k v.subs).length=k:=by rw[Xq];omega
     have rS:(k+1)*16≤140737488355328:=by omega
     have pn:=kU (p:=mq v) hs;have yg:mq v s=(cI s.id&&(fF v s.at_&&dG s)):=rfl;generalize fF v s.at_=H at*;generalize cI s.id=I at*;generalize dG s=F at*;replace hY:=Xj hY;replace pn:=Xj pn;replace yg:=Xj yg;replace gZ:=Xj gZ;replace hs:=Xj hs;have TG:=hs.out;refine Sk ?_ ?_ ?_ ?_<;>intros;all_goals(refine hC _ _ _ _ _ ?_ ⟨k+1,g2+1,_,hlt,?_,rfl,rfl,rfl⟩ (wf (hh:=(by rw[ag hs.out];simp only[al,Xo,Xm,Xv,aN,←aI];rfl))))
     all_goals first
      |(have:=gZ.out;omega)
      |(have h1:=hY.out;have h2:=pn.out;have h3:=yg.out;clear Ba Bb r5 ki hid Ei Qh TF hC sZ;grind)
    ·obtain rfl:k=v.subs.length:=by omega
     rw[Xt]at hY ⊢;replace hY:=Xj hY;replace gZ:=Xj gZ;have RI:gA [] (v.ranges.map (·.at_))=gA [] (v.ranges.map (·.at_)):=rfl;generalize Qi:gA [] (v.ranges.map (·.at_))=A1 at*;generalize JA:gA [] (v.subs.map (·.at_))=A2 at*;replace Qi:=Xj Qi;replace JA:=Xj JA;clear RI;refine am ?_<;>intros;all_goals
      have h1:=hX.out;have h2:=hY.out;clear Ba Bb r5 ki hid hC sZ;first
       |exact ai.refl _
       |(rw[if_pos (by grind)];exact ai.refl _)
       |(rw[if_neg (by grind)];exact ai.refl _)
       |(exfalso;grind)
  |true=>
   rw[b1,b2,Yr,Yr]at RH;subst RH;rw[b2]at r5;generalize fh (fun s:Sbn=>s.id) v.subs=F0 at*;refine pj func97 ntmps97 results97 ?_;have z1z:=sZ.out;refine am ?_<;>intros;refine bL ae ak (fun m e h=>∃(k g:Nat) (X:Bool),k≤v.ranges.length∧X=(F0&&(v.ranges.take k).all eB)∧m=v.ranges.length - k∧e=[(28,.d (.v (.int .i64 k))),(27,.d (.v (.int .i64 v.ranges.length))),(26,.d (.sl 3 (v.ranges.map bp))),(5,.d (.v (.bool X))),(4,.d (.v (.slice none 0 0))),(3,.own 1 g),(2,.d (.v (.int .i64 0))),(1,.ptr 0 0)]∧
    h=[.box 55 ((al v).map .d),.row 32 2 g (ab (((v.ranges.take k).map (·.at_)).map aN))]) _ _ _ ⟨0,0,F0,XE _,by simp,rfl,rfl,rfl⟩ ((dr (XE _) 3 32 2 rfl).trans (wf)) ?_
   rintro m e h ⟨k,g,X,hk,hX,hm0,rfl,rfl⟩ C hC;by_cases hlt:k < v.ranges.length
   ·have dM:(k:Int) < (v.ranges.length:Int):=by omega
    have cR:=wi k (by omega);obtain⟨r,hr⟩:∃r,v.ranges[k]? =some r:=⟨_,Xk hlt⟩;have DW:=kR r.pool;have TD:=qZ r.at_;have jc:(Yg k v.ranges).length=k:=by rw[Xq];omega
    have rS:(k+1)*16≤140737488355328:=by omega
    have pn:=kU (p:=eB) hr;have pt:eB r=(cI r.pool&&(chk r.at_.at_ r.at_.len==0)):=rfl;generalize chk r.at_.at_ r.at_.len=K at*;generalize cI r.pool=I at*;replace hX:=Xj hX;replace pn:=Xj pn;replace pt:=Xj pt;replace hm0:=Xj hm0;replace hr:=Xj hr;have TE:=hr.out;refine Aq ?_ ?_ ?_<;>intros;all_goals(refine hC _ _ _ _ _ ?_ ⟨k+1,g+1,_,hlt,?_,rfl,rfl,rfl⟩ (wf (hh:=(by rw[ag hr.out];simp only[al,Xo,Xm,Xv,aN,←aI];rfl))))
    all_goals first
     |(have:=hm0.out;omega)
     |(have h1:=hX.out;have h2:=pn.out;have h3:=pt.out;clear Ba Bb r5 ki hid DW TD hC sZ;grind)
   ·obtain rfl:k=v.ranges.length:=by omega
    rw[Xt]at hX ⊢;replace hX:=Xj hX;replace hm0:=Xj hm0;refine am ?_<;>intros;refine bL ae ak (fun m e h=>∃(k g2:Nat) (Y:Bool),k≤v.subs.length∧Y=(X&&(v.subs.take k).all (mq v))∧m=v.subs.length - k∧e=[(53,.d (.v (.int .i64 k))),(52,.d (.v (.int .i64 v.subs.length))),(51,.d (.sl 4 (v.subs.map aT))),(5,.d (.v (.bool Y))),(4,.own 2 g2),(3,.own 1 g),(2,.d (.v (.int .i64 0))),(1,.ptr 0 0)]∧
     h=[.box 55 ((al v).map .d),.row 32 2 g (ab ((v.ranges.map (·.at_)).map aN)),.row 32 2 g2 (ab (((v.subs.take k).map (·.at_)).map aN))]) _ _ _ ⟨0,0,X,XE _,by simp,rfl,rfl,rfl⟩ ((dr (XE _) 4 32 2 rfl).trans (wf)) ?_
    rintro m2 e h ⟨k,g2,Y,i7,hY,gZ,rfl,rfl⟩ C hC;by_cases hlt:k < v.subs.length
    ·have dM:(k:Int) < (v.subs.length:Int):=by omega
     have cR:=wi k (by omega);obtain⟨s,hs⟩:∃s,v.subs[k]? =some s:=⟨_,Xk hlt⟩;have lN:=Xl hs;have Ei:=kR s.id;have Qh:=rf v s.at_ (by omega);have TF:=At s (h8.out s lN).1 (h8.out s lN).2;have jc:(Yg k v.subs).length=k:=by rw[Xq];omega
     have rS:(k+1)*16≤140737488355328:=by omega
     have pn:=kU (p:=mq v) hs;have yg:mq v s=(cI s.id&&(fF v s.at_&&dG s)):=rfl;generalize fF v s.at_=H at*;generalize cI s.id=I at*;generalize dG s=F at*;replace hY:=Xj hY;replace pn:=Xj pn;replace yg:=Xj yg;replace gZ:=Xj gZ;replace hs:=Xj hs;have TG:=hs.out;refine Sk ?_ ?_ ?_ ?_<;>intros;all_goals(refine hC _ _ _ _ _ ?_ ⟨k+1,g2+1,_,hlt,?_,rfl,rfl,rfl⟩ (wf (hh:=(by rw[ag hs.out];simp only[al,Xo,Xm,Xv,aN,←aI];rfl))))
     all_goals first
      |(have:=gZ.out;omega)
      |(have h1:=hY.out;have h2:=pn.out;have h3:=yg.out;clear Ba Bb r5 ki hid Ei Qh TF hC sZ;grind)
    ·obtain rfl:k=v.subs.length:=by omega
     rw[Xt]at hY ⊢;replace hY:=Xj hY;replace gZ:=Xj gZ;have RI:gA [] (v.ranges.map (·.at_))=gA [] (v.ranges.map (·.at_)):=rfl;generalize Qi:gA [] (v.ranges.map (·.at_))=A1 at*;generalize JA:gA [] (v.subs.map (·.at_))=A2 at*;replace Qi:=Xj Qi;replace JA:=Xj JA;clear RI;refine xo ?_ ?_<;>intros;all_goals
      have h1:=hX.out;have h2:=hY.out;clear Ba Bb r5 ki hid hC sZ;first
       |exact ai.refl _
       |(rw[if_pos (by grind)];exact ai.refl _)
       |(rw[if_neg (by grind)];exact ai.refl _)
       |(exfalso;grind)
def ck (s:Sbn)(v:PV):List PV:=[.d (.v (.int .i64 s.id)),.d (.v (.int .i64 s.at_.at_)),.d (.v (.int .i64 s.at_.len)),v]
def d8 (f:Fce)(v:PV):List PV:=[.d (.v (.int .i64 f.id)),v]
def eU {α:Type}(enc:α→List D)(pre:List α)(r:List PV)(post:List α):List (List PV):=ab (pre.map enc)++r::ab (post.map enc)
section
variable {α:Type}{enc:α→List D}
@[go_sem] theorem rg (pre:List α)(r:List PV)(post:List α):(eU enc pre r post).length=pre.length+1+post.length:=by
 simp[eU,aF];omega
theorem vI (n:Nat):∀(l m:List (List PV)),cF n (l++m)=(cF n l&&cF n m)
 |[],m=>rfl
 |r::l,m=>by simp only[X8,cF,vI n l m,P']
theorem Ct (n:Nat)(pre:List α)(r:List PV)(post:List α):cF n (eU enc pre r post)=an n r:=by
 simp only[eU,vI,cF,az,Yr,YA]
theorem cL {A:Prop}(h:A:=by first|rfl|simp only[aH,ek,aQ,an,cF,aq,bj,az,Ct,ck,d8,XA,XZ,XM,ZR,decide_true,Yp,YA]):A:=h
theorem cY (k g:Nat)(d:D)(pre:List α)(r:List PV)(post:List α):f9 k g d (eU enc pre r post)=eU enc pre (gy k g d r) post:=by
 simp only[eU,aR,f9,bS]
theorem kJ (pre:List α)(r:List PV)(post:List α)(q:α):eU enc pre r post++[(enc q).map .d]=eU enc pre r (post++[q]):=by
 simp[eU,ab]
@[go_sem] theorem iF (ρ:Nat→Nat)(pre:List α)(r:List PV)(post:List α):jN ρ (eU enc pre r post)=eU enc pre (iR ρ r) post:=by
 have app:∀(l m:List (List PV)),jN ρ (l++m)=jN ρ l++jN ρ m:=by
  intro l m;rw[eK,eK,eK,Xo]
 simp only[eU,app,jN,uZ]
theorem y7 (f:PV→Option D):∀(l m:List (List PV)),dh f (l++m)=match dh f l,dh f m with|some a,some b=>some (a++b)|_,_=>none
 |[],m=>by simp only[Ya,dh];cases dh f m<;>rfl
 |r::l,m=>by
  simp only[X8,dh,y7 f l m];cases cM f r<;>cases dh f l<;>cases dh f m<;>rfl
@[go_sem] theorem m5 (h:Nat→Chunk)(n:Nat)(pre:List α)(r:List PV)(post:List α):dh (bq h n) (eU enc pre r post)=match cM (bq h n) r with|some d=>some (pre.map enc++d::post.map enc)|none=>none:=by
 simp only[eU,y7,dh,eJ];cases cM (bq h n) r<;>rfl
@[go_sem] theorem ri (pre:List α)(r:List PV)(post:List α):(eU enc pre r post)[pre.length]? =some r:=by
 unfold eU;rw[XH (by simp[aF])];simp[aF]
@[go_sem] theorem Cu (pre:List α)(r r':List PV)(post:List α):(eU enc pre r post).set pre.length r'=eU enc pre r' post:=by
 unfold eU;rw[Yu _ _ (by simp[aF])];simp[aF]
end
def di {α:Type}(key:α→Int)(x:α)(l:List α):List α:=l.take (jg key (key x) l)++x::l.drop (jg key (key x) l)
theorem QR {α:Type}(key:α→Int)(t:Int)(l:List α):jg key t l≤l.length:=List.findIdx_le_length
theorem f6 {α:Type}(key:α→Int)(x:α)(l:List α):(di key x l).Perm (l++[x]):=by
 unfold di;have h:l++[x]=(l.take (jg key (key x) l)++l.drop (jg key (key x) l))++[x]:=by rw[YX]
 rw[h,X4];refine List.Perm.append_left _ ?_;exact(List.perm_append_singleton _ _).symm
theorem mr {α:Type}{key:α→Int}{x y:α}{l:List α}:y∈di key x l↔y=x∨y∈l:=by
 rw[(f6 key x l).mem_iff];simp[or_comm]
theorem fi {α:Type}(key:α→Int)(x:α)(l:List α):(di key x l).length=l.length+1:=by
 rw[(f6 key x l).length_eq];simp
theorem gB {α:Type}{key:α→Int}{x:α}{l:List α}(hs:l.Pairwise fun a b=>key a < key b)(hn:∀y∈l,key y≠key x):(di key x l).Pairwise fun a b=>key a < key b:=by
 have yf:∀y∈l.take (jg key (key x) l),key y < key x:=by
  intro y hy;obtain⟨i,hi,rfl⟩:=X0.1 hy;rw[ZA];have:=List.not_of_lt_findIdx (show i < jg key (key x) l by rw[Xq]at hi;omega);simp at this;exact this
 have Ha:∀y∈l.drop (jg key (key x) l),key x < key y:=by
  intro y hy;have FM:=Yd hy;obtain⟨i,hi,rfl⟩:=X0.1 hy;rw[List.getElem_drop]at FM ⊢;rw[XJ]at hi;have hlt:jg key (key x) l < l.length:=by omega
  have h0:=List.findIdx_getElem (xs:=l) (p:=fun y=>decide (key x≤key y)) (w:=hlt);simp only[decide_eq_true_eq]at h0;change key x≤key (l[jg key (key x) l]'hlt)at h0;have bB:=hn _ FM;rcases ZJ i with h|h
  ·subst h;simp only[XW]at bB ⊢;omega
  ·have:=XF.1 hs _ (jg key (key x) l+i) hlt (by omega) (by omega);omega
 unfold di;rw[YT,YC];refine⟨hs.sublist (O' _ _),⟨Ha,hs.sublist (List.drop_sublist _ _)⟩,fun a ha b hb=>?_⟩;rcases X7.1 hb with rfl|hb
 ·exact yf a ha
 ·have:=yf a ha;have:=Ha b hb;omega
def Vpc.zero:Vpc:=⟨0,[],[]⟩
theorem Vpc.zero_le:ai (.agg [.v (.int .i64 0),.v (.slice none 0 0),.v (.slice none 0 0)]) (.agg (al Vpc.zero)):=by repeat(first|exact ai.refl _|exact ai.nil _|(refine ai.tup ?_)|(refine ai.agg ?_ rfl)|exact trivial|(refine And.intro ?_ ?_))
structure VpcOK (v:Vpc):Prop where
 n4:v.ranges.length≤4
 n6:v.subs.length≤6
 n8:∀s∈v.subs,s.faces.length≤8∧∀f∈s.faces,f.addrs.length≤4
 id:cI v.id=true
 rr:v.ranges.Pairwise fun a b=>a.at_.at_ < b.at_.at_
 rs:v.subs.Pairwise fun a b=>a.id < b.id
 ranges:∀r∈v.ranges,eB r=true
 subs:∀s∈v.subs,mq v s=true
 ar:gA [] (v.ranges.map (·.at_))=true
 as_:gA [] (v.subs.map (·.at_))=true
theorem KI {v:Vpc}:bN v=0↔kS v=false∧pF v=true∧gA [] (v.ranges.map (·.at_))=true∧gA [] (v.subs.map (·.at_))=true:=by
 unfold bN;generalize gA [] (v.ranges.map (·.at_))=A;generalize gA [] (v.subs.map (·.at_))=B;cases kS v<;>cases pF v<;>cases A<;>cases B<;>simp
theorem aY {v:Vpc}(h:bN v=0):VpcOK v:=by
 obtain⟨h1,h2,h3,h4⟩:=KI.1 h;obtain⟨a,b,c⟩:=vH h1;unfold pF at h2;simp only[Xy,XC,f5]at h2;exact⟨a,b,c,h2.1.1,h2.1.2.1,h2.1.2.2,h2.2.1,h2.2.2,h3,h4⟩
theorem ku {r:Rng}(h:eB r=true):r.at_.right=true:=by
 unfold eB at h;simp only[Xy,beq_iff_eq]at h;simp[Pfx.right,bE,h.2]
theorem vJ {p q:Pfx}(hp:p.right=true)(hq:q.right=true)(h:p.meets q=false):p.at_≠q.at_:=fun e=>by
 have b1:=p.hi_bd hp;have b2:=q.hi_bd hq;rw[dU.2 ⟨hp,hq,by omega,by omega⟩]at h;cases h
def lG (v:Vpc)(r:Rng):Int:=
 if chk r.at_.at_ r.at_.len≠0∨cI r.pool=false then 1 else
 if (v.ranges.any fun q=>q.at_.meets r.at_)=true then 6 else if v.ranges.length=4 then 2 else 0
def cK (v:Vpc)(r:Rng):Vpc × Int:=
 if bN v≠0 then (Vpc.zero,bN v)else if lG v r≠0 then (Vpc.zero,lG v r)else ({v with ranges:=di (·.at_.at_) r v.ranges},0)
theorem f7 (n lo hi:Int):af prog 75 [.v (.int .i64 n),.v (.int .i64 lo),.v (.int .i64 hi)] (.v (.bool (decide (lo≤n)&&decide (n≤hi)))):=by
 refine pj func75 ntmps75 results75 ?_;exact bc;all_goals exact Gm (by grind)
theorem vK {α:Type}{p:α→Bool}{l:List α}{k:Nat}{x:α}(hx:l[k]? =some x)(hp:p x=true)(cg:(l.take k).all (fun y=>!p y)=true):cz p l=k:=
 fY hx hp fun y hy=>by have:=XC.1 cg y hy;simpa using this
theorem Au {α:Type}{p:α→Bool}{l:List α}(cg:(l.take l.length).all (fun y=>!p y)=true):cz p l= -1:=
 fZ fun y hy=>by rw[Xt]at cg;have:=XC.1 cg y hy;simpa using this
theorem d9 {α:Type}{p:α→Bool}{l:List α}{k:Nat}{x:α}(hx:l[k]? =some x)(cg:(l.take k).all p=true)(h:p x=true):(l.take (k+1)).all p=true:=by rw[kU hx,cg,h];rfl
theorem y8 (v:Vpc)(p:Pfx)(hl:v.ranges.length≤1000000000):af prog 192 [.agg (al v),.agg (aN p)] (.v (.bool (fF v p))):=by
 obtain⟨R,hR⟩:∃R,R=fF v p:=⟨_,rfl⟩;rw[←hR];replace hR:=Xj hR;refine pj func192 ntmps192 results192 ?_;refine am ?_<;>intros;refine bo ae ak v.ranges (fun k=>(v.ranges.take k).all (fun r=>!(dO p r.at_))=true) (fun k=>[(5,.d (.v (.int .i64 k))),(4,.d (.v (.bool false))),(3,.ptr 1 0),(2,.ptr 0 0)]) (fun _=>[.box 55 ((al v).map .d),.box 32 ((aN p).map .d)]) rfl (wf) ?_ ?_
 ·intro k r hr hk hI C hC;have dM:(k:Int) < (v.ranges.length:Int):=by omega
  have cR:=wi k (by omega);have hi:=vG p r.at_;rw[uB]at hi;replace hI:=Xj hI;cases h1:dO p r.at_ with
  |true=>
   rw[h1]at hi;have hb:R=true:=by rw[hR.out];exact XU.2 ⟨r,Xl hr,h1⟩
   rw[hb];replace hb:=Xj hb;exact bc;all_goals exact ai.refl _
  |false=>
   rw[h1]at hi;have lU:=Xj (d9 (p:=fun r:Rng=>!(dO p r.at_)) hr hI.out (by rw[h1];rfl));refine am ?_<;>intros;exact hC _ _ lU.out (wf)
 ·intro hI C;rw[Xt]at hI;have hb:R=false:=by rw[hR.out];unfold fF;rw[Yh];intro x hx;have:=XC.1 hI x hx;simpa using this
  rw[hb];replace hb:=Xj hb;replace hI:=Xj hI;exact bc;all_goals exact ai.refl _
theorem Cv (s:Sbn)(x:Int):af prog 241 [.agg (aT s),.v (.int .i64 x)] (.v (.bool (iW s.at_ x))):=by
 have hh:af prog 224 [.agg (aN s.at_),.v (.int .i64 x)] (.v (.bool (kP s.at_.at_ s.at_.len x))):=H5 s.at_ x;cases h1:kP s.at_.at_ s.at_.len x with
 |false=>
  have hr:iW s.at_ x=false:=by unfold iW;rw[oq,h1];rfl
  rw[h1]at hh;rw[hr];refine pj func241 ntmps241 results241 ?_;exact bc;all_goals exact ai.refl _
 |true=>
  have D1:=mo.1 h1;have nu:=KB s.at_ (by rw[←Pfx.right];exact D1.1);have Vd:kO s.at_.at_ s.at_.len=s.at_.hi - 1:=rfl;have hr:iW s.at_ x=((x !=s.at_.at_)&&(x !=s.at_.hi - 1)):=by
   unfold iW;rw[oq,h1,Yr,Yi];have:s.at_.hi=s.at_.at_+eG s.at_.len:=rfl;simp only[Xy,decide_eq_true_eq,bne_iff_ne];omega
  rw[Vd]at nu;rw[h1]at hh;rw[hr];have nu:af prog 190 [.agg (aN s.at_)] (.v (.int .i64 (s.at_.hi - 1))):=nu;generalize s.at_.hi - 1=Z at*;cases h2:(x !=s.at_.at_)with
  |false=>
   refine pj func241 ntmps241 results241 ?_;exact bc;all_goals exact ai.refl _
  |true=>
   refine pj func241 ntmps241 results241 ?_;exact bc;all_goals exact ai.refl _
theorem Ia (v:Vpc)(hl:v.subs.length≤9223372036854775807)(hf:∀s∈v.subs,s.faces.length≤9223372036854775807):af prog 191 [.agg (al v)] (.v (.bool (kS v))):=by
 obtain⟨R,hR⟩:∃R,R=kS v:=⟨_,rfl⟩;rw[←hR];replace hR:=Xj hR;unfold kS at hR;cases h1:decide ((v.ranges.length:Int)>4)with
 |true=>
  have hb:R=true:=by rw[hR.out,h1];rfl
  rw[hb];replace hb:=Xj hb;refine pj func191 ntmps191 results191 ?_;exact bc;all_goals exact ai.refl _
 |false=>
  cases h2:decide ((v.subs.length:Int)>6)with
  |true=>
   have hb:R=true:=by rw[hR.out,h1,h2];rfl
   rw[hb];replace hb:=Xj hb;refine pj func191 ntmps191 results191 ?_;exact bc;all_goals exact ai.refl _
  |false=>
   have aP:R=v.subs.any ny:=by rw[hR.out,h1,h2];rfl
   clear hR;replace aP:=Xj aP;refine pj func191 ntmps191 results191 ?_;refine am ?_<;>intros;refine bo ae ak v.subs (fun k=>(v.subs.take k).all (fun s=>!(ny s))=true) (fun k=>[(3,.d (.v (.int .i64 k))),(2,.d (.v (.bool false))),(1,.ptr 0 0)]) (fun _=>[.box 55 ((al v).map .d)]) rfl (wf) ?_ ?_
   ·intro k s hs hk hI C hC;have dM:(k:Int) < (v.subs.length:Int):=by omega
    have cR:=wi k (by omega);have gY:=hf s (Xl hs);have TH:ny s=true→R=true:=fun h=>by rw[aP.out];exact XU.2 ⟨s,Xl hs,h⟩
    have dS:ny s=false→(v.subs.take (k+1)).all (fun s=>!(ny s))=true:=fun h=>d9 hs hI (by rw[h];rfl);have RJ:ny s=(decide ((s.faces.length:Int)>8)||s.faces.any pE):=rfl;replace hI:=Xj hI;replace dS:=Xj dS;cases h3:decide ((s.faces.length:Int)>8)with
    |true=>
     have hb:R=true:=TH (by rw[RJ,h3];rfl);rw[hb];replace hb:=Xj hb;clear TH RJ;exact bc;all_goals exact ai.refl _
    |false=>
     rw[h3,ZT]at RJ;replace TH:=Xj TH;replace RJ:=Xj RJ;refine am ?_<;>intros;refine bo ae ak s.faces (fun j=>(s.faces.take j).all (fun f=>!(pE f))=true) (fun j=>[(4,.d (.v (.int .i64 j))),(3,.d (.v (.int .i64 k))),(2,.d (.v (.bool false))),(1,.ptr 0 0)]) (fun _=>[.box 55 ((al v).map .d)]) rfl (wf) ?_ ?_
     ·intro j f WC hj hJ C2 jI;have ip:(j:Int) < (s.faces.length:Int):=by omega
      have kj:=wi j (by omega);replace hJ:=Xj hJ;cases h4:decide ((f.addrs.length:Int)>4)with
      |true=>
       have hb:R=true:=TH.out (by rw[RJ.out];exact XU.2 ⟨f,Xl WC,h4⟩);rw[hb];replace hb:=Xj hb;exact bc;all_goals exact ai.refl _
      |false=>
       have Bm:=Xj (d9 (p:=fun f:Fce=>!(pE f)) WC hJ.out (by unfold pE;rw[h4];rfl));refine am ?_<;>intros;exact jI _ _ Bm.out (wf)
     ·intro hJ C2;rw[Xt]at hJ;have lU:=dS.out (by rw[RJ.out,Yh];intro x hx;have:=XC.1 hJ x hx;simpa using this);replace hJ:=Xj hJ;replace lU:=Xj lU;refine am ?_<;>intros;exact hC _ _ lU.out (wf)
   ·intro hI C;rw[Xt]at hI;have hb:R=false:=by rw[aP.out,Yh];intro x hx;have:=XC.1 hI x hx;simpa using this
    rw[hb];replace hb:=Xj hb;replace hI:=Xj hI;exact bc;all_goals exact ai.refl _
theorem EQ {s:Sbn}{f:Fce}(hf:f∈s.faces)(h:kT s.at_ f=false):dG s=false:=by
 unfold dG;rw[show s.faces.all (kT s.at_)=false from by rw[Y2];exact⟨f,hf,by rw[h];simp⟩];rfl
theorem Cw {s:Sbn}{k:Nat}{x y:Fce}(h0:0 < k)(hx:s.faces[k - 1]? =some x)(hy:s.faces[k]? =some y)(h:x.id≥y.id):dG s=false:=by
 have:fh (fun f:Fce=>f.id) s.faces=false:=by
  rw[YE,ne_eq,eL];intro hr;obtain⟨hl,he⟩:=Xn.1 hy;obtain⟨RL,TJ⟩:=Xn.1 hx;have h1:=hr (k - 1) (by omega);simp only[show k - 1+1=k by omega,he,TJ]at h1;omega
 unfold dG;simp only[this,Bool.and_false]
theorem ER {p:Pfx}{f:Fce}{k:Nat}{x y:Int}(h0:0 < k)(hx:f.addrs[k - 1]? =some x)(hy:f.addrs[k]? =some y)(h:x≥y):kT p f=false:=by
 have:fh (fun x=>x) f.addrs=false:=by
  rw[YE,ne_eq,eL];intro hr;obtain⟨hl,he⟩:=Xn.1 hy;obtain⟨RL,TJ⟩:=Xn.1 hx;have h1:=hr (k - 1) (by omega);simp only[show k - 1+1=k by omega,he,TJ]at h1;omega
 unfold kT;simp[this]
theorem ES {s:Sbn}{k:Nat}{f:Fce}{a:Int}(hf:s.faces[k]? =some f)(ha:a∈f.addrs)(hd:a∈(s.faces.take k).flatMap (·.addrs)):dG s=false:=by
 have:¬(s.faces.flatMap (·.addrs)).Nodup:=by
  intro hn;rw[←YX k s.faces,jS hf,Zs,List.flatMap_cons,N']at hn;exact hn.2.2 a hd a (ZP _ ha) rfl
 unfold dG;simp[this]
theorem vL {α:Type}{key:α→Int}{l:List α}{k:Nat}{y:α}(hy:l[k]? =some y)(h:∀j (h:j+1 < l.length),j+1 < k→key l[j] < key l[j+1])(hs:∀x,0 < k→l[k - 1]? =some x→key x < key y):∀j (h:j+1 < l.length),j+1 < k+1→key l[j] < key l[j+1]:=by
 intro j hj A8;rcases XP (j+1) k with h1|h1
 ·exact h j hj h1
 ·obtain rfl:k=j+1:=by omega
  obtain⟨hl,he⟩:=Xn.1 hy;rw[he];exact hs _ (by omega) (Xk (by omega))
theorem Cy (s:Sbn)(h8:s.faces.length≤8)(h4:∀f∈s.faces,f.addrs.length≤4):af prog 193 [.agg (aT s)] (.v (.bool (dG s))):=by
 obtain⟨R,hR⟩:∃R,R=dG s:=⟨_,rfl⟩;rw[←hR];replace hR:=Xj hR;refine pj func193 ntmps193 results193 ?_;refine am ?_<;>intros;refine bL ae ak (fun m e h=>∃(k g:Nat) (A:List Int),k≤s.faces.length∧A=(s.faces.take k).flatMap (·.addrs)∧A.length≤4*k∧A.Nodup∧(s.faces.take k).all (kT s.at_)=true∧(∀j (h:j+1 < s.faces.length),j+1 < k→s.faces[j].id < s.faces[j+1].id)∧m=s.faces.length - k∧
  e=[(4,.d (.v (.int .i64 k))),(3,.own 1 g),(2,.d (.v (.bool false))),(1,.ptr 0 0)]∧h=[.box 71 ((aT s).map .d),.row 3 1 g (ab (A.map cy))]) _ _ _ ⟨0,0,[],XE _,rfl,XE _,List.nodup_nil,rfl,fun j h h1=>by omega,rfl,rfl,rfl⟩ ((dr (XE _) 3 3 1 rfl).trans (wf)) ?_
 rintro m e h ⟨k,g,A,hk,hA,hAl,lm,bP,Bc,hm,rfl,rfl⟩ C hC;replace hm:=Xj hm;replace hA:=Xj hA;replace lm:=Xj lm;replace bP:=Xj bP;replace Bc:=Xj Bc;by_cases hlt:k < s.faces.length
 ·have dM:(k:Int) < (s.faces.length:Int):=by omega
  have cR:=wi k (by omega);have A9:decide ((k:Int)>0)=true→IntKind.i64.wrap ((k:Int) - 1)=((k - 1:Nat):Int):=fun h=>by have:=of_decide_eq_true h;rw[IntKind.wrap_i64];omega
  obtain⟨f,hf⟩:∃f,s.faces[k]? =some f:=⟨_,Xk hlt⟩;obtain⟨y,hy⟩:∃y,s.faces[k - 1]? =some y:=⟨_,Xk (by omega)⟩;have D0:=Xl hf;have gY:=h4 f D0;have hw:af prog 75 [.v (.int .i64 f.id),.v (.int .i64 1),.v (.int .i64 65536)] (.v (.bool (cI f.id))):=f7 _ _ _;have t9:(0 < k∧y.id≥f.id)→R=false:=fun h=>by rw[hR.out];exact Cw h.1 hy hf h.2
  have yi:kT s.at_ f=false→R=false:=fun h=>by rw[hR.out];exact EQ D0 h
  have RM:∀a∈f.addrs,a∈A→R=false:=fun a h1 h2=>by rw[hR.out];exact ES hf h1 (by rw[←hA.out];exact h2)
  have gT:kT s.at_ f=(cI f.id&&(!((f.addrs.length:Int)==0)&&(fh (fun x=>x) f.addrs&&f.addrs.all (iW s.at_)))):=rfl;replace t9:=Xj t9;replace yi:=Xj yi;replace RM:=Xj RM;replace gT:=Xj gT;cases b1:cI f.id with
  |false=>
   have hr:R=false:=yi.out (by rw[gT.out,b1];rfl);rw[b1]at hw;rw[hr];replace hr:=Xj hr;exact bc;all_goals exact ai.refl _
  |true=>
   rw[b1]at hw;cases b2:((f.addrs.length:Int)==0)with
   |true=>
    have hr:R=false:=yi.out (by rw[gT.out,b1,b2];rfl);rw[hr];replace hr:=Xj hr;exact bc;all_goals exact ai.refl _
   |false=>
    refine Aq ?_ ?_ ?_<;>intros;all_goals first
     |(exact Gm (t9.out (by clear hw hC;grind)).symm)
     |skip
    all_goals
     have dS:0 < k→y.id < f.id:=by clear hw hC;grind
     replace dS:=Xj dS;refine bL ae ak (fun m e h=>∃(j:Nat),j≤f.addrs.length∧(f.addrs.take j).all (iW s.at_)=true∧(∀i (h:i+1 < f.addrs.length),i+1 < j→f.addrs[i] < f.addrs[i+1])∧(f.addrs.take j).all (fun a=>!(A.contains a))=true∧m=f.addrs.length - j∧
      e=[(6,.d (.v (.int .i64 j))),(5,.ptr 2 0),(4,.d (.v (.int .i64 k))),(3,.own 1 g),(2,.d (.v (.bool false))),(1,.ptr 0 0)]∧h=[.box 71 ((aT s).map .d),.row 3 1 g (ab (A.map cy)),.box 74 ((cj f).map .d)]) _ _ _ ⟨0,XE _,rfl,fun j h h1=>by omega,rfl,rfl,rfl,rfl⟩ (wf) ?_
     rintro m2 e h ⟨j,hj,dE,MP,cg,gZ,rfl,rfl⟩ C2 jI;replace gZ:=Xj gZ;replace dE:=Xj dE;replace MP:=Xj MP;replace cg:=Xj cg;by_cases pm:j < f.addrs.length
     ·have ip:(j:Int) < (f.addrs.length:Int):=by omega
      have kj:=wi j (by omega);have uJ:decide ((j:Int)>0)=true→IntKind.i64.wrap ((j:Int) - 1)=((j - 1:Nat):Int):=fun h=>by have:=of_decide_eq_true h;rw[IntKind.wrap_i64];omega
      obtain⟨a,ha⟩:∃a,f.addrs[j]? =some a:=⟨_,Xk pm⟩;obtain⟨b,hb⟩:∃b,f.addrs[j - 1]? =some b:=⟨_,Xk (by omega)⟩;have Uq:=Xl ha;have PA:=Cv s a;have A5:(0 < j∧b≥a)→R=false:=fun h=>yi.out (ER h.1 hb ha h.2);replace A5:=Xj A5;cases b3:iW s.at_ a with
      |false=>
       have hr:R=false:=yi.out (by rw[gT.out,show f.addrs.all (iW s.at_)=false from by rw[Y2];exact⟨a,Uq,by rw[b3];simp⟩];simp);rw[b3]at PA;rw[hr];replace hr:=Xj hr;exact bc;all_goals exact ai.refl _
      |true=>
       rw[b3]at PA;refine Aq ?_ ?_ ?_<;>intros;all_goals first
        |(exact Gm (A5.out (by clear hw hC jI PA;grind)).symm)
        |skip
       all_goals
        have zO:0 < j→b < a:=by clear hw hC jI PA;grind
        replace zO:=Xj zO;refine bo ae ak A (fun q=>(A.take q).all (fun x=>!(x==a))=true) (fun q=>[(7,.d (.v (.int .i64 q))),(6,.d (.v (.int .i64 j))),(5,.ptr 2 0),(4,.d (.v (.int .i64 k))),(3,.own 1 g),(2,.d (.v (.bool false))),(1,.ptr 0 0)])
         (fun _=>[.box 71 ((aT s).map .d),.row 3 1 g (ab (A.map cy)),.box 74 ((cj f).map .d)]) rfl (wf) ?_ ?_
        ·intro q x hx hq hQ C3 Qj;have WD:(q:Int) < (A.length:Int):=by omega
         have cO:=wi q (by omega);replace hQ:=Xj hQ;cases b4:(x==a)with
         |true=>
          have hr:R=false:=RM.out a Uq (by rw[←eq_of_beq b4];exact Xl hx);rw[hr];replace hr:=Xj hr;exact bc;all_goals exact ai.refl _
         |false=>
          have hQ2:=Xj (d9 (p:=fun x:Int=>!(x==a)) hx hQ.out (by rw[b4];rfl));repeat' (first|(with_reducible refine And.intro ?_ ?_)|(with_reducible refine cn (fun _=>?_) (fun _=>?_))|(with_reducible refine aA (fun _=>?_) (fun _=>?_))|(with_reducible refine be (by kernel_rfl))|simp -dsimp only[go_sem,seval, *,aT,cj,cy,WD,cO,ha,hx,b4,undef]|((with_reducible refine bf ?_);simp -dsimp only[go_sem,seval,aT,cj,cy,WD,cO,ha,hx,b4,undef];first|refine aC (by first|assumption|fail) (by first|exact .inl rfl|exact .inr rfl) ?_|(refine aB (by assumption) ?_ ?_ ?_;(solve|(repeat(first|exact ai.refl _|exact ai.nil _|(refine ai.tup ?_)|(refine ai.agg ?_ rfl)|exact trivial|(refine And.intro ?_ ?_))));(solve|exact .inl rfl|exact .inr rfl)))|fail|omega|exact decide_eq_true (by omega)|exact ai.refl _)
          exact Qj _ _ hQ2.out (wf)
        ·intro hQ C3;rw[Xt]at hQ;have Nw:A.contains a=false:=by
          rw[YE,ne_eq,ZL];intro hm;have:=XC.1 hQ a hm;simp at this
         replace hQ:=Xj hQ;replace Nw:=Xj Nw;refine am ?_<;>intros;refine jI _ _ _ _ _ ?_ ⟨j+1,pm,d9 ha dE.out b3,vL (key:=fun x:Int=>x) ha MP.out (fun x h0 hx=>by rw[hb]at hx;rw[←XX.inj hx];exact zO.out h0),d9 ha cg.out (by rw[Nw.out];rfl),rfl,rfl,rfl⟩ (wf);have:=gZ.out;omega
     ·obtain rfl:j=f.addrs.length:=by omega
      have dE:=dE.out;have cg:=cg.out;rw[Xt]at dE cg;have lz:kT s.at_ f=true:=by
       rw[gT.out,b1,b2,dE,(eL f.addrs).2 (fun i hi=>MP.out i hi (by omega))];rfl
      have JA:A++f.addrs=(s.faces.take (k+1)).flatMap (·.addrs):=by rw[ag hf,Zs,←hA.out];simp
      have PB:f.addrs.Nodup:=by
       have h1:=(f5 (key:=fun x:Int=>x) f.addrs).1 ((eL f.addrs).2 (fun i hi=>MP.out i hi (by omega)));exact h1.imp (fun h=>by omega)
      have xb:(A++f.addrs).Nodup:=by
       rw[N'];refine⟨lm.out,PB,fun x hx y hy e=>?_⟩;subst e;have:=XC.1 cg x hy;rw[ZL.2 hx]at this;simp at this
      have rS:(A.length+f.addrs.length)*8≤140737488355328:=by omega
      replace cg:=Xj cg;replace dE:=Xj dE;replace lz:=Xj lz;replace JA:=Xj JA;replace PB:=Xj PB;replace xb:=Xj xb;refine am ?_<;>intros;refine hC _ _ _ _ _ ?_ ⟨k+1,g+1,A++f.addrs,hlt,JA.out,by rw[XY];omega,xb.out,d9 hf bP.out lz.out,vL (key:=fun f:Fce=>f.id) hf Bc.out (fun x h0 hx=>by rw[hy]at hx;rw[←XX.inj hx];exact dS.out h0),rfl,rfl,rfl⟩ (wf (hh:=(by simp only[aT,cj,Xo,Xm,Xv,←aI];rfl)));have:=hm.out;omega
 ·obtain rfl:k=s.faces.length:=by omega
  have hr:R=true:=by
   have bP:=bP.out;have hA:=hA.out;rw[Xt]at bP hA;rw[hR.out];unfold dG;rw[bP,←hA,(eL s.faces).2 (fun i hi=>Bc.out i hi (by omega))];simp[lm.out]
  rw[hr];replace hr:=Xj hr;exact bc;all_goals exact ai.refl _
theorem Cz:∀(pre l:List Pfx),gA pre l=true↔l.Pairwise (fun a b=>b.meets a=false)∧∀a∈pre,∀b∈l,b.meets a=false
 |pre,[]=>by simp[gA]
 |pre,p::l=>by
  simp only[gA,Xy,Zz,Yh,ZI,Cz (pre++[p]) l,YC,X3,X7,List.not_mem_nil,or_false];constructor
  ·rintro⟨h1,h2,h3⟩;refine⟨⟨fun b hb=>h3 p (.inr rfl) b hb,h2⟩,fun a ha b hb=>?_⟩;rcases hb with rfl|hb
   ·exact h1 a ha
   ·exact h3 a (.inl ha) b hb
  ·rintro⟨⟨h1,h2⟩,h3⟩;refine⟨fun x hx=>h3 x hx p (.inl rfl),h2,fun a ha b hb=>?_⟩;rcases ha with ha|rfl
   ·exact h3 a ha b (.inr hb)
   ·exact h1 b hb
theorem ou {l:List Pfx}:gA [] l=true↔l.Pairwise (fun a b=>b.meets a=false):=by
 rw[Cz];simp
theorem KJ {l:List Pfx}(hr:∀p∈l,p.right=true)(hs:l.Pairwise fun a b=>a.at_ < b.at_)(ha:∀j (h:j+1 < l.length),l[j].meets l[j+1]=false):gA [] l=true:=by
 rw[ou,XF];intro i j hi hj hij;rw[YE,ne_eq,dU];rintro⟨-,-,h1,h2⟩;have h3:=ha i (by omega);have r1:=hr l[i] (Ym hi);have r2:=hr l[i+1] (Ym (by omega));rw[YE,ne_eq,dU]at h3;have s1:=XF.1 hs i (i+1) hi (by omega) (by omega);have s2:l[i+1].at_≤l[j].at_:=by
  rcases XP (i+1) j with h|h
  ·have:=XF.1 hs (i+1) j (by omega) hj h;omega
  ·obtain rfl:j=i+1:=by omega
   exact ZG _
 have b2:=l[i+1].hi_bd r2;exact h3 ⟨r1,r2,by omega,by omega⟩
theorem KK {v:Vpc}(hm:kS v=false)(h:pF v=false∨gA [] (v.ranges.map (·.at_))=false∨gA [] (v.subs.map (·.at_))=false):bN v=1:=by
 unfold bN;rw[if_neg (by simp[hm]),if_neg];rintro h1;simp only[Xy]at h1;rcases h with h|h|h<;>simp[h]at h1
theorem CA {l:List Pfx}{i j:Nat}{x y:Pfx}(hij:i < j)(hx:l[i]? =some x)(hy:l[j]? =some y)(h:x.meets y=true):gA [] l=false:=by
 rw[YE,ne_eq,ou];intro hp;obtain⟨h1,rfl⟩:=Xn.1 hx;obtain⟨h2,rfl⟩:=Xn.1 hy;have:=XF.1 hp i j h1 h2 hij;rw[←fg]at this h;unfold nx at this h;grind
theorem CB {α:Type}{key:α→Int}{l:List α}{k:Nat}{x y:α}(h0:0 < k)(hx:l[k - 1]? =some x)(hy:l[k]? =some y)(h:key x≥key y):fh key l=false:=by
 rw[YE,ne_eq,eL];intro hr;obtain⟨hl,he⟩:=Xn.1 hy;obtain⟨RL,TJ⟩:=Xn.1 hx;have h1:=hr (k - 1) (by omega);simp only[show k - 1+1=k by omega,he,TJ]at h1;omega
theorem Gr {α:Type}{p:α→Bool}{l:List α}{x:α}(hx:x∈l)(h:p x=false):l.all p=false:=by
 rw[Y2];exact⟨x,hx,by rw[h];simp⟩
theorem mv {v:Vpc}(h:cI v.id=false∨fh (fun r:Rng=>r.at_.at_) v.ranges=false∨fh (fun s:Sbn=>s.id) v.subs=false∨v.ranges.all eB=false∨v.subs.all (mq v)=false):pF v=false:=by
 unfold pF;rcases h with h|h|h|h|h<;>simp[h]
theorem CC {l:List Rng}{k:Nat}{y:Rng}(hy:l[k]? =some y)(h:∀j (h:j+1 < l.length),j+1 < k→l[j].at_.at_ < l[j+1].at_.at_∧l[j].at_.meets l[j+1].at_=false)(hs:∀x,0 < k→l[k - 1]? =some x→x.at_.at_ < y.at_.at_∧x.at_.meets y.at_=false):∀j (h:j+1 < l.length),j+1 < k+1→l[j].at_.at_ < l[j+1].at_.at_∧l[j].at_.meets l[j+1].at_=false:=by
 intro j hj A8;rcases XP (j+1) k with h1|h1
 ·exact h j hj h1
 ·obtain rfl:k=j+1:=by omega
  obtain⟨hl,he⟩:=Xn.1 hy;rw[he];exact hs _ (by omega) (Xk (by omega))
theorem Ib {v:Vpc}(hm:kS v=false)(h1:cI v.id=true)(h2:v.ranges.all eB=true)(h3:∀j (h:j+1 < v.ranges.length),v.ranges[j].at_.at_ < v.ranges[j+1].at_.at_∧v.ranges[j].at_.meets v.ranges[j+1].at_=false)(h4:v.subs.all (mq v)=true)(h5:∀j (h:j+1 < v.subs.length),v.subs[j].id < v.subs[j+1].id)(h6:∀(i j:Nat) (x y:Sbn),i < j→v.subs[i]? =some x→v.subs[j]? =some y→x.at_.meets y.at_=false):bN v=0:=by
 have r1:fh (fun r:Rng=>r.at_.at_) v.ranges=true:=(eL v.ranges).2 fun j hj=>(h3 j hj).1;have r2:fh (fun s:Sbn=>s.id) v.subs=true:=(eL v.subs).2 h5;rw[KI];refine⟨hm,by unfold pF;rw[h1,r1,r2,h2,h4];rfl,?_,?_⟩
 ·refine KJ (fun p hp=>?_) ?_ fun j hj=>?_
  ·obtain⟨r,hr,rfl⟩:=XQ.1 hp;exact ku (XC.1 h2 r hr)
  ·rw[Y3];exact(f5 v.ranges).1 r1
  ·simp only[XD]at hj;simp only[A'];exact(h3 j hj).2
 ·rw[ou,Y3,XF];intro i j hi hj hij;have:=h6 i j _ _ hij (Xk hi) (Xk hj);rw[←fg]at this ⊢;unfold nx at this ⊢;grind
theorem gC (v:Vpc)(hl:v.subs.length≤9223372036854775807)(hf:∀s∈v.subs,s.faces.length≤9223372036854775807):af prog 107 [.agg (al v)] (.v (.int .i64 (bN v))):=by
 have sZ:=Ia v hl hf;clear hl hf;cases hm:kS v with
 |true=>
  rw[hm]at sZ;have hr:bN v=2:=by unfold bN;rw[if_pos hm]
  rw[hr];refine pj func107 ntmps107 results107 ?_;exact bc
 |false=>
 obtain⟨h4,h6,h8⟩:=vH hm;rw[hm]at sZ;have hid:af prog 75 [.v (.int .i64 v.id),.v (.int .i64 1),.v (.int .i64 65536)] (.v (.bool (cI v.id))):=f7 _ _ _;have eS:=Xj (fun h=>KK hm h);have TK:=Xj (fun a b c d e f=>Ib hm a b c d e f);replace h8:=Xj h8;replace hm:=Xj hm;obtain⟨R,hR⟩:∃R,R=bN v:=⟨_,rfl⟩;rw[←hR];replace hR:=Xj hR;cases b1:cI v.id with
 |false=>
  have hr:R=1:=by rw[hR.out];exact eS.out (.inl (mv (.inl b1)))
  rw[b1]at hid;rw[hr];replace hr:=Xj hr;refine pj func107 ntmps107 results107 ?_;exact bc
 |true=>
 rw[b1]at hid;refine pj func107 ntmps107 results107 ?_;refine am ?_<;>intros;clear sZ hid;refine bL ae ak (fun m e h=>∃(k:Nat),k≤v.ranges.length∧(v.ranges.take k).all eB=true∧(∀j (h:j+1 < v.ranges.length),j+1 < k→v.ranges[j].at_.at_ < v.ranges[j+1].at_.at_∧v.ranges[j].at_.meets v.ranges[j+1].at_=false)∧m=v.ranges.length - k∧e=[(3,.d (.v (.int .i64 k))),(2,.d (.v (.int .i64 0))),(1,.ptr 0 0)]∧
  h=[.box 55 ((al v).map .d)]) _ _ _ ⟨0,XE _,rfl,fun j h h1=>by omega,rfl,rfl,rfl⟩ (wf) ?_
 rintro m e h ⟨k,hk,bP,Ji,hm0,rfl,rfl⟩ C hC;replace hm0:=Xj hm0;replace bP:=Xj bP;replace Ji:=Xj Ji;by_cases hlt:k < v.ranges.length
 ·have dM:(k:Int) < (v.ranges.length:Int):=by omega
  have cR:=wi k (by omega);have A9:decide ((k:Int)>0)=true→IntKind.i64.wrap ((k:Int) - 1)=((k - 1:Nat):Int):=fun h=>by have:=of_decide_eq_true h;rw[IntKind.wrap_i64];omega
  obtain⟨r,hr⟩:∃r,v.ranges[k]? =some r:=⟨_,Xk hlt⟩;obtain⟨y,hy⟩:∃y,v.ranges[k - 1]? =some y:=⟨_,Xk (by omega)⟩;have uK:=Xl hr;have hw:af prog 75 [.v (.int .i64 r.pool),.v (.int .i64 1),.v (.int .i64 65536)] (.v (.bool (cI r.pool))):=f7 _ _ _;have D1:af prog 189 [.agg (aN r.at_)] (.v (.bool (chk r.at_.at_ r.at_.len==0))):=vF r.at_;have nN:=p5 y.at_ r.at_;rw[fg]at nN;have pt:eB r=(cI r.pool&&(chk r.at_.at_ r.at_.len==0)):=rfl;have bI:eB r=false→R=1:=fun h=>by rw[hR.out];exact eS.out (.inl (mv (.inr (.inr (.inr (.inl (Gr uK h)))))))
  have t9:0 < k∧y.at_.at_≥r.at_.at_→R=1:=fun h=>by rw[hR.out];exact eS.out (.inl (mv (.inr (.inl (CB (key:=fun r:Rng=>r.at_.at_) h.1 hy hr h.2)))))
  have JB:0 < k∧y.at_.meets r.at_=true→R=1:=fun h=>by
   rw[hR.out];exact eS.out (.inr (.inl (CA (i:=k - 1) (j:=k) (by omega) (by rw[Xz,hy];rfl) (by rw[Xz,hr];rfl) h.2)))
  replace bI:=Xj bI;replace t9:=Xj t9;replace JB:=Xj JB;cases b2:eB r with
  |false=>
   have h1:R=1:=bI.out b2;rw[b2]at pt;rw[h1];replace h1:=Xj h1;cases b3:cI r.pool with
   |false=>
    rw[b3]at hw;clear pt;exact bc;all_goals exact ai.refl _
   |true=>
    rw[b3,Yr]at pt;rw[b3]at hw;have b4:=pt.symm;rw[b4]at D1;clear pt;replace b4:=Xj b4;exact bc;all_goals exact ai.refl _
  |true=>
   rw[b2]at pt;obtain⟨b3,b4⟩:=Bool.and_eq_true_iff.1 pt.symm;rw[b3]at hw;rw[b4]at D1;clear pt;replace b3:=Xj b3;replace b4:=Xj b4;cases b5:y.at_.meets r.at_ with
   |true=>
    rw[b5]at nN;refine Aq ?_ ?_ ?_<;>intros;all_goals first
     |(exact re (JB.out (by clear hw hC D1 nN;grind)).symm)
     |(refine hC _ _ _ _ _ ?_ ⟨k+1,hlt,d9 hr bP.out b2,CC hr Ji.out (fun x h0 hx=>?_),rfl,rfl,rfl⟩ (wf);(have:=hm0.out;omega);exfalso;clear hw hC D1 nN;grind)
   |false=>
    rw[b5]at nN;refine Aq ?_ ?_ ?_<;>intros;all_goals first
     |(exact re (t9.out (by clear hw hC D1 nN;grind)).symm)
     |(refine hC _ _ _ _ _ ?_ ⟨k+1,hlt,d9 hr bP.out b2,CC hr Ji.out (fun x h0 hx=>?_),rfl,rfl,rfl⟩ (wf);(have:=hm0.out;omega);rw[hy]at hx;rw[←XX.inj hx];exact⟨by clear hw hC D1 nN;grind,b5⟩)
 ·obtain rfl:k=v.ranges.length:=by omega
  have bP:=bP.out;rw[Xt]at bP;have TL:=Xj (fun j hj=>Ji.out j hj (by omega));replace bP:=Xj bP;clear Ji;refine am ?_<;>intros;refine bL ae ak (fun m e h=>∃(k:Nat),k≤v.subs.length∧(v.subs.take k).all (mq v)=true∧(∀j (h:j+1 < v.subs.length),j+1 < k→v.subs[j].id < v.subs[j+1].id)∧(∀(i j:Nat) (x y:Sbn),i < j→j < k→v.subs[i]? =some x→v.subs[j]? =some y→x.at_.meets y.at_=false)∧m=v.subs.length - k∧e=[(5,.d (.v (.int .i64 k))),(2,.d (.v (.int .i64 0))),(1,.ptr 0 0)]∧
   h=[.box 55 ((al v).map .d)]) _ _ _ ⟨0,XE _,rfl,fun j h h1=>by omega,fun i j x y h1 h2=>by omega,rfl,rfl,rfl⟩ (wf) ?_
  rintro m2 e h ⟨k,i7,ln,Bc,Nx,gZ,rfl,rfl⟩ C2 jI;replace gZ:=Xj gZ;replace ln:=Xj ln;replace Bc:=Xj Bc;replace Nx:=Xj Nx;by_cases Bd:k < v.subs.length
  ·have dM:(k:Int) < (v.subs.length:Int):=by omega
   have cR:=wi k (by omega);have A9:decide ((k:Int)>0)=true→IntKind.i64.wrap ((k:Int) - 1)=((k - 1:Nat):Int):=fun h=>by have:=of_decide_eq_true h;rw[IntKind.wrap_i64];omega
   obtain⟨s,hs⟩:∃s,v.subs[k]? =some s:=⟨_,Xk Bd⟩;obtain⟨y,hy⟩:∃y,v.subs[k - 1]? =some y:=⟨_,Xk (by omega)⟩;have lN:=Xl hs;have hw:af prog 75 [.v (.int .i64 s.id),.v (.int .i64 1),.v (.int .i64 65536)] (.v (.bool (cI s.id))):=f7 _ _ _;have MQ:=y8 v s.at_ (by omega);have PC:=Cy s (h8.out s lN).1 (h8.out s lN).2;have yg:mq v s=(cI s.id&&(fF v s.at_&&dG s)):=rfl;have bI:mq v s=false→R=1:=fun h=>by rw[hR.out];exact eS.out (.inl (mv (.inr (.inr (.inr (.inr (Gr lN h)))))))
   have t9:0 < k∧y.id≥s.id→R=1:=fun h=>by rw[hR.out];exact eS.out (.inl (mv (.inr (.inr (.inl (CB (key:=fun s:Sbn=>s.id) h.1 hy hs h.2))))))
   have JB:∀(j:Nat) (x:Sbn),j < k→v.subs[j]? =some x→x.at_.meets s.at_=true→R=1:=fun j x hj hx h=>by
    rw[hR.out];exact eS.out (.inr (.inr (CA (i:=j) (j:=k) hj (by rw[Xz,hx];rfl) (by rw[Xz,hs];rfl) h)))
   replace bI:=Xj bI;replace t9:=Xj t9;replace JB:=Xj JB;replace yg:=Xj yg;cases b3:cI s.id with
   |false=>
    have h1:R=1:=bI.out (by rw[yg.out,b3];rfl);rw[h1];replace h1:=Xj h1;rw[b3]at hw;exact bc;all_goals exact ai.refl _
   |true=>
    rw[b3]at hw;cases b4:fF v s.at_ with
    |false=>
     have h1:R=1:=bI.out (by rw[yg.out,b3,b4];rfl);rw[h1];replace h1:=Xj h1;rw[b4]at MQ;exact bc;all_goals exact ai.refl _
    |true=>
     rw[b4]at MQ;cases b5:dG s with
     |false=>
      have h1:R=1:=bI.out (by rw[yg.out,b3,b4,b5];rfl);rw[h1];replace h1:=Xj h1;rw[b5]at PC;exact bc;all_goals exact ai.refl _
     |true=>
      rw[b5]at PC;have b6:mq v s=true:=by rw[yg.out,b3,b4,b5];rfl
      replace b6:=Xj b6;refine Aq ?_ ?_ ?_<;>intros;all_goals first
       |(exact re (t9.out (by clear hw hC jI MQ PC;grind)).symm)
       |skip
      all_goals
       have dS:0 < k→y.id < s.id:=by clear hw hC jI MQ PC;grind
       replace dS:=Xj dS;refine qR ae ak k (fun j=>∀(i:Nat) (x:Sbn),i < j→v.subs[i]? =some x→x.at_.meets s.at_=false) (fun j=>[(7,.d (.v (.int .i64 j))),(6,.ptr 1 0),(5,.d (.v (.int .i64 k))),(2,.d (.v (.int .i64 0))),(1,.ptr 0 0)]) (fun _=>[.box 55 ((al v).map .d),.box 71 ((aT s).map .d)]) (fun i x h=>absurd h (YJ _)) (wf) ?_ ?_
       ·intro j A8 hJ C3 Qj;have ip:(j:Int) < (k:Int):=by omega
        have kj:=wi j (by omega);obtain⟨x,hx⟩:∃x,v.subs[j]? =some x:=⟨_,Xk (by omega)⟩;have nN:=p5 x.at_ s.at_;rw[fg]at nN;cases b7:x.at_.meets s.at_ with
        |true=>
         have h1:R=1:=JB.out j x A8 hx b7;rw[h1];replace h1:=Xj h1;replace hJ:=Xj hJ;rw[b7]at nN;exact bc;all_goals exact ai.refl _
        |false=>
         have Bm:∀(i:Nat) (x:Sbn),i < j+1→v.subs[i]? =some x→x.at_.meets s.at_=false:=by
          intro i x' hi hx';rcases XP i j with h|h
          ·exact hJ i x' h hx'
          ·obtain rfl:i=j:=by omega
           rw[hx]at hx';rw[←XX.inj hx'];exact b7
         replace Bm:=Xj Bm;replace hJ:=Xj hJ;rw[b7]at nN;refine am ?_<;>intros;exact Qj _ _ Bm.out (wf)
       ·intro hJ C3;replace hJ:=Xj hJ;refine am ?_<;>intros;refine jI _ _ _ _ _ ?_ ⟨k+1,Bd,d9 hs ln.out b6.out,vL (key:=fun s:Sbn=>s.id) hs Bc.out (fun x h0 hx=>by rw[hy]at hx;rw[←XX.inj hx];exact dS.out h0),fun i j x z h1 h2 hx hz=>?_,rfl,rfl,rfl⟩ (wf)
        ·have:=gZ.out;omega
        ·rcases XP j k with h|h
         ·exact Nx.out i j x z h1 h hx hz
         ·obtain rfl:j=k:=by omega
          rw[hs]at hz;rw[←XX.inj hz];exact hJ.out i x h1 hx
  ·obtain rfl:k=v.subs.length:=by omega
   have h1:R=0:=by
    have ln:=ln.out;rw[Xt]at ln;rw[hR.out];refine TK.out b1 bP.out TL.out ln (fun j hj=>Bc.out j hj (by omega)) (fun i j x y hij hx hy=>Nx.out i j x y hij ?_ hx hy);exact(Xn.1 hy).1
   rw[h1];replace h1:=Xj h1;exact bc;all_goals exact ai.refl _
def kV (ents:List (List Int × Int)):Nat→Int→Int→Prop
 |0,x,r=>kF ents [x]=some x∧r=x
 |n+1,x,r=>∃y,kF ents [x]=some y∧y≠x∧kV ents n y r
theorem Av (ents:List (List Int × Int))(n:Nat)(x r:Int)(h:kV ents n x r):
 MSpec prog 47 [.mref 0,.d (.v (.int .i64 x))] [.mp 1 false ents] (.d (.v (.int .i64 r))) [.mp 1 false ents]:=by
 refine mj func47 ntmps47 results47 ?_;refine am ?_<;>intros;refine bL ae ak (fun m e h=>∃(y:Int),kV ents m y r∧e=[(4,.d (.v (.int .i64 0))),(1,.d (.v (.int .i64 y))),(0,.mref 0)]∧h=[.mp 1 false ents]) _ _ _ ⟨x,h,rfl,rfl⟩ (wf) ?_;rintro m e h ⟨y,hy,rfl,rfl⟩ C hC;cases m with
 |zero=>
  obtain⟨h1,rfl⟩:=hy;refine am ?_<;>intros;all_goals exact bn rfl rfl
 |succ m=>
  obtain⟨z,h1,h2,h3⟩:=hy;have bB:(z !=y)=true:=by simpa using h2
  replace h3:=Xj h3;replace h2:=Xj h2;refine am ?_<;>intros;exact hC _ _ _ _ _ (Nat.lt_succ_self _) ⟨z,h3.out,rfl,rfl⟩ (wf)
def dH (v w:Vpc):Bool:=v.ranges.any fun r=>w.ranges.any fun q=>r.at_.meets q.at_
theorem Ic (q r:Rng):af prog 238 [.agg (bp q),.ept (bp r)] (.v (.bool (r.at_.meets q.at_))):=by
 have hm:af prog 19 [.agg (aN r.at_),.agg (aN q.at_)] (.v (.bool (r.at_.meets q.at_))):=oZ _ _;refine pj func238 ntmps238 results238 ?_;exact bc
theorem KL (r:Rng)(w:Vpc)(hw:w.ranges.length≤1000000000):af prog 237 [.agg (bp r),.ept (al w)] (.v (.bool (w.ranges.any fun q=>r.at_.meets q.at_))):=by
 have hc:=mX mf (fun q=>r.at_.meets q.at_) w.ranges 238 [.ept (bp r)] hw (fun q _=>Ic q r);refine pj func237 ntmps237 results237 ?_;exact bc
theorem Oh (v w:Vpc)(hv:v.ranges.length≤1000000000)(hw:w.ranges.length≤1000000000):af prog 188 [.agg (al v),.agg (al w)] (.v (.bool (dH v w))):=by
 have hc:=mX mf (fun r=>w.ranges.any fun q=>r.at_.meets q.at_) v.ranges 237 [.ept (al w)] hv (fun r _=>KL r w hw);refine pj func188 ntmps188 results188 ?_;exact bc
def CD:List Int→Int
 |[]=>0
 |x::l=>if x=0 then CD l else x
theorem KM {l:List Int}{k:Nat}{x:Int}(h:l[k]? =some x):CD (l.drop k)=if x=0 then CD (l.drop (k+1))else x:=by rw[jS h,CD]
theorem UO (l:List Int)(hl:l.length≤1000000000):af prog 187 [.sl 1 (l.map cy)] (.v (.int .i64 (CD l))):=by
 obtain⟨R,hR⟩:∃R,R=CD l:=⟨_,rfl⟩;rw[←hR];replace hR:=Xj hR;refine pj func187 ntmps187 results187 ?_;refine am ?_<;>intros;refine bo ae ak l (fun k=>CD l=CD (l.drop k)) (fun k=>[(8,.d (.v (.int .i64 k))),(7,.d (.v (.int .i64 l.length))),(6,.d (.sl 1 (l.map cy))),(3,.d (.v (.int .i64 0))),(2,.d (.v (.int .i64 0)))]) (fun _=>[]) rfl (wf) ?_ ?_
 ·intro k x hx hk hI C hC;have dM:(k:Int) < (l.length:Int):=by omega
  have cR:=wi k (by omega);rw[KM hx]at hI;by_cases h0:x=0
  ·rw[if_pos h0]at hI;have bB:(x !=0)=false:=by simp[h0]
   replace hI:=Xj hI;replace h0:=Xj h0;refine am ?_<;>intros;exact hC _ _ hI.out (wf)
  ·rw[if_neg h0]at hI;have bB:(x !=0)=true:=by simpa using h0
   have hr:R=x:=by rw[hR.out,hI]
   rw[hr];replace hr:=Xj hr;replace hI:=Xj hI;replace h0:=Xj h0;exact bc;all_goals exact ai.refl _
 ·intro hI C;rw[Y7]at hI;have hr:R=0:=by rw[hR.out,hI];rfl
  rw[hr];replace hr:=Xj hr;replace hI:=Xj hI;exact bc;all_goals exact ai.refl _
def rj (l m:Lnk):Int:=CD [ez l.a m.a,ez l.b m.b]
theorem Oi (l m:Lnk):af prog 98 [.agg (bG l),.agg (bG m)] (.v (.int .i64 (rj l m))):=by
 have h1:=ml l.a m.a;have h2:=ml l.b m.b;have h3:=UO [ez l.a m.a,ez l.b m.b] (by simp);simp only[Xm,Xv,cy]at h3;unfold rj;generalize ez l.a m.a=A at*;generalize ez l.b m.b=B at*;refine pj func98 ntmps98 results98 ?_;exact bc
def fG (a b:Int):Lnk:=⟨if b < a then b else a,if a < b then b else a⟩
theorem uC (v:Vpc)(id:Int):af prog 112 [.agg (al v),.v (.int .i64 id)] (.v (.int .i64 (ez v.id id))):=by
 have h1:=ml v.id id;refine pj func112 ntmps112 results112 ?_;exact bc
theorem rl {α:Type}{enc:α→List D}(eE:∀x,(enc x).length=3)(key:α→Int)(l:List α)(t:Int)(g:Nat)(caps:List D)(hl:l.length≤1000000000)(hs:l.Pairwise fun a b=>key a < key b)(hc:∀x∈l,af prog g (.agg (enc x):: .v (.int .i64 t)::caps) (.v (.int .i64 (ez (key x) t)))):
 af prog 111 [.sl 3 (l.map enc),.v (.int .i64 t),.clo g caps] (.tup [.v (.int .i64 (jg key t l)),.v (.bool (qU key t l))]):=by
 refine pj func111 ntmps111 results111 ?_;refine am ?_<;>intros;refine bL ae ak (fun m e h=>∃i j:Nat,i≤j∧j≤l.length∧(∀q (hq:q < l.length),q < i→key l[q] < t)∧(∀q (hq:q < l.length),j≤q→t≤key l[q])∧m=j - i∧
  e=[(10,.d (.v (.int .i64 j))),(9,.d (.v (.int .i64 i))),(8,.d (.v (.int .i64 l.length))),(7,.d (.v (.bool false))),(6,.d (.v (.int .i64 0))),(2,.d (.clo g caps)),(1,.d (.v (.int .i64 t))),(0,.d (.sl 3 (l.map enc)))]∧h=[]) _ _ _ ⟨0,l.length,XE _,XB _,fun q hq h=>absurd h (YJ _),fun q hq h=>by omega,rfl,rfl,rfl⟩ ?_ ?_
 ·exact wf (x:=[]) (hh:=rfl) (he:=⟨rfl,rfl,rfl,rfl,rfl,rfl,rfl,rfl,trivial⟩)
 ·rintro m e h ⟨i,j,hij,hj,jb,j7,rfl,rfl,rfl⟩ CL mO;by_cases hlt:i < j
  ·obtain⟨q,hq⟩:∃q,q=(i+j) / 2:=⟨_,rfl⟩;have s6:q < l.length:=by omega
   obtain⟨x,hx⟩:∃x,l[q]? =some x:=⟨_,Xk s6⟩;have nI:l[q]=x:=by rw[Xk s6]at hx;exact XX.inj hx
   have ew:(i:Int) < (j:Int):=by omega
   have cl:IntKind.i64.wrap ((i:Int)+(j:Int))=((i+j:Nat):Int):=by rw[IntKind.wrap_i64];omega
   have cD:IntKind.u64.wrap ((i+j:Nat):Int)=((i+j:Nat):Int):=by rw[vx];omega
   have Qh:(((i+j:Nat):Int)).fdiv (2 ^ min 1 64)=(q:Int):=by
    rw[hq,show (min 1 64:Nat)=1 from rfl,Int.pow_succ,Int.pow_zero,Int.one_mul,Z5 _ (by omega)];omega
   have lV:IntKind.i64.wrap (q:Int)=(q:Int):=by rw[IntKind.wrap_i64];omega
   have Be:=wi q (by omega);have bR:=eE x;have g7:(enc x).take 3=enc x:=XN (by omega);have jL:=hc x (Xl hx);have Jw:=qT (key x) t;have WE:i≤q∧q < j:=by omega
   replace hq:=Xj hq;by_cases hk:key x < t
   ·have dM:decide (key x < t)=true:=by simpa using hk
    refine am ?_<;>intros;refine mO _ _ _ _ _ ?_ ⟨q+1,j,by omega,hj,?_,j7,rfl,rfl,rfl⟩ (wf (x:=[]) (hh:=rfl) (he:=⟨rfl,rfl,rfl,rfl,rfl,rfl,rfl,rfl,trivial⟩))
    ·omega
    ·intro q' hq' Jj;rcases XP q' q with h1|h1
     ·have:=XF.1 hs q' q hq' s6 h1;rw[nI]at this;omega
     ·obtain rfl:q'=q:=by omega
      rw[nI];exact hk
   ·have dM:decide (key x < t)=false:=by simpa using hk
    refine am ?_<;>intros;refine mO _ _ _ _ _ ?_ ⟨i,q,by omega,by omega,jb,?_,rfl,rfl,rfl⟩ (wf (x:=[]) (hh:=rfl) (he:=⟨rfl,rfl,rfl,rfl,rfl,rfl,rfl,rfl,trivial⟩))
    ·omega
    ·intro q' hq' Jj;rcases XP q q' with h1|h1
     ·have:=XF.1 hs q q' s6 hq' h1;rw[nI]at this;omega
     ·obtain rfl:q'=q:=by omega
      rw[nI];omega
  ·obtain rfl:i=j:=by omega
   have jn:=pZ hj jb j7;have rU:qU key t l=match l[i]? with|some x=>key x==t|none=>false:=by unfold qU;rw[jn];all_goals(cases l[i]? <;>rfl)
   replace jn:=Xj jn;replace rU:=Xj rU;by_cases dE:i < l.length
   ·obtain⟨x,hx⟩:∃x,l[i]? =some x:=⟨_,Xk dE⟩;have MR:decide ((i:Int) < (l.length:Int))=true:=by simpa using dE
    have bR:=eE x;have g7:(enc x).take 3=enc x:=XN (by omega);have jL:=hc x (Xl hx);have WF:=sx (key x) t;refine am ?_<;>intros;all_goals rw[rU.out,hx,jn.out]
    all_goals exact ai.refl _
   ·have MR:decide ((i:Int) < (l.length:Int))=false:=by simpa using dE
    refine am ?_<;>intros;all_goals rw[rU.out,jn.out,XT (by omega)]
    all_goals exact ai.refl _
def fP (n:Net)(id:Int):Option Vpc:=n.vpcs.find? fun v=>v.id==id
@[go_sem] def b9 (o:Option Vpc):D:=match o with|some v=> .tup [.ept (al v),.v (.bool true)]|none=> .tup [.v (.pointer none),.v (.bool false)]
theorem KN {l:List Vpc}{id:Int}(hs:l.Pairwise fun a b=>a.id < b.id){v:Vpc}(hv:l[jg (fun v:Vpc=>v.id) id l]? =some v)(he:v.id=id):l.find? (fun v=>v.id==id)=some v:=by
 rw[List.find?_eq_some_iff_getElem];obtain⟨hlt,hg⟩:=Xn.1 hv;refine⟨by simpa using he,_,hlt,hg,fun j hj=>?_⟩;have:=XF.1 hs j _ (by omega) hlt hj;rw[hg]at this;simp;omega
theorem Oj {l:List Vpc}{id:Int}(hs:l.Pairwise fun a b=>a.id < b.id)(h:qU (fun v:Vpc=>v.id) id l=false):l.find? (fun v=>v.id==id)=none:=by
 rw[Yq];intro v hv he;have he2:v.id=id:=by simpa using he
 obtain⟨j,hj,rfl⟩:=X0.1 hv;have h1:jg (fun v:Vpc=>v.id) id l=j:=pZ (by omega) (fun q hq WG=>by
  have:=XF.1 hs q j hq hj WG;show l[q].id < id;omega) (fun q hq UW=>by
  show id≤l[q].id;rcases XP j q with h|h
  ·have:=XF.1 hs j q hj hq h;omega
  ·obtain rfl:q=j:=by omega
   omega)
 unfold qU at h;rw[h1,Xk hj]at h;simp[he2]at h
@[go_sem] def ce (o:Option Vpc):PV:= .d (b9 o)
theorem CE (n:Net)(id:Int)(hl:n.vpcs.length≤1000000000)(hs:n.vpcs.Pairwise fun a b=>a.id < b.id):MSpec prog 45 [.ptr 0 0,.d (.v (.int .i64 id))] [.box 28 ((aK n).map .d)] (ce (fP n id)) [.box 28 ((aK n).map .d)]:=by
 have hb:=rl iS (fun v:Vpc=>v.id) n.vpcs id 112 [] hl hs (fun v _=>uC v id);unfold fP;cases hB:qU (fun v:Vpc=>v.id) id n.vpcs with
 |false=>
  rw[Oj hs hB];rw[hB]at hb;clear hs;refine mj func45 ntmps45 results45 ?_;refine am ?_<;>intros;all_goals exact bn rfl rfl
 |true=>
  obtain⟨v,hv,he⟩:∃v,n.vpcs[jg (fun v:Vpc=>v.id) id n.vpcs]? =some v∧v.id=id:=by
   unfold qU at hB;cases hq:n.vpcs[jg (fun v:Vpc=>v.id) id n.vpcs]? with
   |none=>rw[hq]at hB;cases hB
   |some v=>rw[hq]at hB;exact⟨v,rfl,by simpa using hB⟩
  rw[KN hs hv he];rw[hB]at hb;clear hs;replace he:=Xj he;have hlt:=(Xn.1 hv).1;generalize jg (fun v:Vpc=>v.id) id n.vpcs=k at*;refine mj func45 ntmps45 results45 ?_;refine am ?_<;>intros;all_goals exact bn rfl rfl
theorem Gs {ents:List (List Int × Int)}{a b r:Int}(hb:kF ents [b]=some b)(hr:r≠b):∀{n:Nat}{x:Int},kV ents n x r→kV (l9 ents [b] a) n x r
 |0,x,h=>by
  obtain⟨h1,rfl⟩:=h;exact⟨by rw[gX,if_neg (by simpa using fun e=>hr e.symm)];exact h1,rfl⟩
 |n+1,x,h=>by
  obtain⟨y,h1,h2,h3⟩:=h;have hx:b≠x:=fun e=>by subst e;rw[hb]at h1;exact h2 (XX.inj h1).symm
  exact⟨y,by rw[gX,if_neg (by simpa using hx)];exact h1,h2,Gs hb hr h3⟩
theorem CF {ents:List (List Int × Int)}{a b:Int}(ha:kF ents [a]=some a)(hb:kF ents [b]=some b)(gJ:a≠b):∀{n:Nat}{x:Int},kV ents n x b→kV (l9 ents [b] a) (n+1) x a
 |0,x,h=>by
  obtain⟨h1,rfl⟩:=h;exact⟨a,by rw[gX,if_pos rfl],gJ,by rw[gX,if_neg (by simpa using fun e=>gJ e.symm)];exact ha,rfl⟩
 |n+1,x,h=>by
  obtain⟨y,h1,h2,h3⟩:=h;have hx:b≠x:=fun e=>by subst e;rw[hb]at h1;exact h2 (XX.inj h1).symm
  exact⟨y,by rw[gX,if_neg (by simpa using hx)];exact h1,h2,CF ha hb gJ h3⟩
theorem sG {ents:List (List Int × Int)}{b r:Int}(hb:kF ents [b]=some b):∀{n:Nat}{x:Int},kV ents n x r→kV (l9 ents [b] b) n x r
 |0,x,h=>by
  obtain⟨h1,rfl⟩:=h;refine⟨?_,rfl⟩;rw[gX];split
  ·rename_i e;simp at e;rw[e]
  ·exact h1
 |n+1,x,h=>by
  obtain⟨y,h1,h2,h3⟩:=h;refine⟨y,?_,h2,sG hb h3⟩;rw[gX,if_neg]
  ·exact h1
  ·intro e;simp at e;subst e;rw[hb]at h1;exact h2 (XX.inj h1).symm
def Gt (ids:List Int)(ents:List (List Int × Int))(F:Int→Int):Prop:=∀x∈ids,(∃n,kV ents n x (F x))∧F x∈ids∧kF ents [F x]=some (F x)
def fQ (F:Int→Int)(l:Lnk):Int→Int:=fun x=>if F x=F l.b then F l.a else F x
def pG (s:List (List Int × Int) × (Int→Int))(l:Lnk):List (List Int × Int) × (Int→Int):=(l9 s.1 [s.2 l.b] (s.2 l.a),fQ s.2 l)
theorem KO {ids:List Int}{ents:List (List Int × Int)}{F:Int→Int}{l:Lnk}(h:Gt ids ents F)(ha:l.a∈ids)(hb:l.b∈ids):Gt ids (l9 ents [F l.b] (F l.a)) (fQ F l):=by
 obtain⟨-,fa,ra⟩:=h l.a ha;obtain⟨-,fb,rb⟩:=h l.b hb;intro x hx;obtain⟨⟨n,hn⟩,fx,rx⟩:=h x hx;unfold fQ;by_cases gJ:F l.a=F l.b
 ·rw[gJ];by_cases nO:F x=F l.b
  ·rw[if_pos nO,←nO];exact⟨⟨n,sG rx hn⟩,fx,by rw[gX,if_pos rfl]⟩
  ·rw[if_neg nO];exact⟨⟨n,sG rb hn⟩,fx,by rw[gX,if_neg (by simpa using fun e=>nO e.symm)];exact rx⟩
 ·by_cases nO:F x=F l.b
  ·rw[if_pos nO];rw[nO]at hn;exact⟨⟨n+1,CF ra rb gJ hn⟩,fa,by rw[gX,if_neg (by simpa using fun e=>gJ e.symm)];exact ra⟩
  ·rw[if_neg nO];exact⟨⟨n,Gs rb nO hn⟩,fx,by rw[gX,if_neg (by simpa using fun e=>nO e.symm)];exact rx⟩
def mw (vs:List Vpc):List (List Int × Int):=vs.foldl (fun e v=>l9 e [v.id] v.id) []
theorem kW {α β:Type}{f:β→α→β}{b:β}{l:List α}{k:Nat}{x:α}(h:l[k]? =some x):(l.take (k+1)).foldl f b=f ((l.take k).foldl f b) x:=by rw[ag h,Zn];rfl
theorem KQ (l:List Vpc)(e:List (List Int × Int))(x:Int):kF (l.foldl (fun e v=>l9 e [v.id] v.id) e) [x]=if x∈l.map (·.id)then some x else kF e [x]:=by
 induction l generalizing e with
 |nil=>simp
 |cons v l ih=>
  rw[YO,ih,gX];by_cases h1:x∈l.map (·.id)
  ·rw[if_pos h1,if_pos (by simp only[Xm,X7];exact .inr h1)]
  ·rw[if_neg h1];by_cases h2:v.id=x
   ·subst h2;simp
   ·rw[if_neg (by simpa using h2),if_neg];simp only[Xm,X7,not_or];exact⟨fun e=>h2 e.symm,h1⟩
theorem SU (vs:List Vpc):Gt (vs.map (·.id)) (mw vs) (fun x=>x):=fun x hx=>by
 have:=KQ vs [] x;rw[if_pos hx]at this;exact⟨⟨0,this,rfl⟩,hx,this⟩
def SV (n:Net):List (List Int × Int) × (Int→Int):=n.links.foldl pG (mw n.vpcs,fun x=>x)
theorem P0 {n:Net}(hl:∀l∈n.links,l.a∈n.vpcs.map (·.id)∧l.b∈n.vpcs.map (·.id))(k:Nat):Gt (n.vpcs.map (·.id)) ((n.links.take k).foldl pG (mw n.vpcs,fun x=>x)).1 ((n.links.take k).foldl pG (mw n.vpcs,fun x=>x)).2:=by
 induction k with
 |zero=>exact SU n.vpcs
 |succ k ih=>
  by_cases hk:k < n.links.length
  ·have hx:=Xk hk;rw[kW hx];have:=hl _ (Ym hk);exact KO ih this.1 this.2
  ·rw[XN (by omega)]at ih ⊢;exact ih
def Js (pid:Int)(m:List (List Int × Int))(l:Lse):List (List Int × Int):=if l.kind=1 then l9 m [l.at_.at_,l.at_.len,pid] l.owner else m
def KR (m:List (List Int × Int))(p:Pol):List (List Int × Int):=p.leases.foldl (Js p.id) m
def uh (b:Bok):List (List Int × Int):=b.pools.foldl KR []
theorem Gu (b:Bok)(h1:b.pools.length≤1000000000)(h2:∀p∈b.pools,p.leases.length≤1000000000):
 MSpec prog 34 [.d (.agg (aS b))] [] (.mref 1) [.gone,.mp 3 true (uh b)]:=by
 replace h2:=Xj h2;refine mj func34 ntmps34 results34 ?_;refine am ?_;refine bo ae ak b.pools (fun _=>True) (fun k=>[(12,.d (.v (.int .i64 k))),(11,.d (.v (.int .i64 b.pools.length))),(10,.d (.sl 9 (b.pools.map ah))),(3,.mref 1)])
  (fun k=>[.gone,.mp 3 true ((b.pools.take k).foldl KR [])]) trivial ?_ ?_ ?_
 ·exact(aL 0 (by simp)).trans wf
 ·intro k p hp hk _ C hC;have dM:(k:Int) < (b.pools.length:Int):=by omega
  have cR:=wi k (by omega);have iP:=h2.out p (Xl hp);have hs:(b.pools.take (k+1)).foldl KR []=p.leases.foldl (Js p.id) ((b.pools.take k).foldl KR []):=by rw[kW hp];rfl
  replace hs:=Xj hs;generalize (b.pools.take k).foldl KR []=M at*;refine am ?_;refine bo ae ak p.leases (fun _=>True) (fun j=>[(19,.d (.v (.int .i64 j))),(18,.d (.v (.int .i64 p.leases.length))),(17,.d (.sl 5 (p.leases.map aV))),(5,.ptr 2 0),(12,.d (.v (.int .i64 k))),(11,.d (.v (.int .i64 b.pools.length))),(10,.d (.sl 9 (b.pools.map ah))),(3,.mref 1)])
   (fun j=>[.gone,.mp 3 true ((p.leases.take j).foldl (Js p.id) M),.box 62 ((ah p).map .d)]) trivial wf ?_ ?_
  ·intro j l hl hj _ D hD;have ip:(j:Int) < (p.leases.length:Int):=by omega
   have kj:=wi j (by omega);have ht:(p.leases.take (j+1)).foldl (Js p.id) M=if l.kind=1 then l9 ((p.leases.take j).foldl (Js p.id) M) [l.at_.at_,l.at_.len,p.id] l.owner else (p.leases.take j).foldl (Js p.id) M:=by rw[kW hl];rfl
   generalize (p.leases.take j).foldl (Js p.id) M=Mj at*;by_cases pk:l.kind=1
   ·rw[if_pos pk]at ht;have e1:(l.kind==1)=true:=by simpa using pk
    replace ht:=Xj ht;replace pk:=Xj pk;refine am ?_;exact hD _ _ trivial (wf (hh:=by rw[ht.out];rfl))
   ·rw[if_neg pk]at ht;have e1:(l.kind==1)=false:=by simpa using pk
    replace ht:=Xj ht;replace pk:=Xj pk;refine am ?_;exact hD _ _ trivial (wf (hh:=by rw[ht.out];rfl))
  ·intro _ D;rw[Xt];refine am ?_;exact hC _ _ trivial (wf (hh:=by rw[hs.out];rfl))
 ·intro _ C;rw[Xt];refine am ?_;exact bn rfl rfl
def Aw (E:List (List Int × Int))(id:Int)(r:Rng):Bool:=(kF E [r.at_.at_,r.at_.len,r.pool]).getD 0==id
def ow (vs:List Vpc):Nat:=(vs.map (·.ranges.length)).sum
def gD (vs:List Vpc)(o:Int):Bool:=vs.any (·.id==o)
def kX (E:List (List Int × Int))(vs:List Vpc):Bool:=vs.all fun v=>v.ranges.all (Aw E v.id)
def kY (E:List (List Int × Int))(p:Int→Bool)(i:Nat):Bool:=match E[i]? with|some kv=>p kv.2|none=>false
theorem ET (E:List (List Int × Int))(p:Int→Bool):(X5 E.length).countP (kY E p)=E.countP fun kv=>p kv.2:=by
 induction E with
 |nil=>rfl
 |cons a l ih=>
  rw[XA,List.range_succ_eq_map,List.countP_cons,List.countP_map,List.countP_cons];have:(kY (a::l) p∘Nat.succ)=kY l p:=by funext i;rfl
  rw[this,ih];rfl
theorem Ie {n:Nat}{seen:List Nat}(hn:seen.Nodup)(hl:∀i∈seen,i < n)(ha:∀i,i < n→i∈seen):seen.Perm (X5 n):=
 (List.perm_ext_iff_of_nodup hn List.nodup_range).2 fun i=>by
  rw[YR];exact⟨hl i,ha i⟩
theorem KS {E:List (List Int × Int)}{p:Int→Bool}{seen:List Nat}(hn:seen.Nodup)(hl:∀i∈seen,i < E.length)(ha:∀i,i < E.length→i∈seen):seen.countP (kY E p)=E.countP fun kv=>p kv.2:=by
 rw[←ET];exact List.Perm.countP_eq _ (Ie hn hl ha)
def CG (n:Nat)(seen:List Nat):Nat:=((X5 n).filter fun i=>!seen.contains i).length
theorem Gv {n i:Nat}{seen:List Nat}(hi:i < n)(hs:i∉seen):CG n (seen++[i]) < CG n seen:=by
 unfold CG;have wY:((X5 n).filter fun j=>!(seen++[i]).contains j)=((X5 n).filter fun j=>!seen.contains j).filter (fun j=>!(j==i)):=by
  rw[Zi];refine Z2 fun j _=>?_;by_cases h:j=i
  ·subst h;simp
  ·by_cases h2:j∈seen<;>simp[h,h2]
 rw[wY];refine List.length_filter_lt_length_iff_exists.2 ⟨i,?_,by simp⟩;rw[Zt];exact⟨YR.2 hi,by simpa using hs⟩
theorem If {vs:List Vpc}{k:Nat}{v:Vpc}(h:vs[k]? =some v):ow (vs.take (k+1))=ow (vs.take k)+v.ranges.length:=by
 unfold ow;rw[ag h,Xo,List.sum_append];simp
theorem Ok {vs:List Vpc}{n:Nat}(h:∀v∈vs,v.ranges.length≤n):ow vs≤vs.length*n:=by
 induction vs with
 |nil=>simp[ow]
 |cons v vs ih=>
  have h1:=h v (by simp);have h2:=ih fun x hx=>h x (by simp[hx]);simp only[ow,Xm,List.sum_cons,XA]at*;rw[ZQ];omega
theorem Ol (m:List (List Int × Int))(k:List Int)(v:Int):(l9 m k v).length≤m.length+1:=by
 induction m with
 |nil=>simp[l9]
 |cons a m ih=>
  unfold l9;split
  ·simp
  ·simp only[XA];omega
theorem Om (l:List Lse)(pid:Int):∀(m:List (List Int × Int)),(l.foldl (Js pid) m).length≤m.length+l.length:=by
 induction l with
 |nil=>intro m;simp
 |cons a l ih=>
  intro m;rw[YO];have h1:=ih (Js pid m a);have h2:(Js pid m a).length≤m.length+1:=by
   unfold Js;split
   ·exact Ol _ _ _
   ·omega
  simp only[XA];omega
theorem On {b:Bok}{n:Nat}(h:∀p∈b.pools,p.leases.length≤n):(uh b).length≤b.pools.length*n:=by
 unfold uh;have key:∀(l:List Pol) (m:List (List Int × Int)),(∀p∈l,p.leases.length≤n)→(l.foldl KR m).length≤m.length+l.length*n:=by
  intro l;induction l with
  |nil=>intro m _;simp
  |cons a l ih=>
   intro m hl;rw[YO];have h1:=ih (KR m a) fun p hp=>hl p (by simp[hp]);have h2:=Om a.leases a.id m;have h3:=hl a (by simp);simp only[XA];rw[ZQ];unfold KR at*;omega
 have:=key b.pools [] h;simpa using this
theorem UP (n:Net)(h1:n.vpcs.length≤1000000000)(h2:n.links.length≤1000000000)(hl:∀l∈n.links,l.a∈n.vpcs.map (·.id)∧l.b∈n.vpcs.map (·.id)):
 MSpec prog 46 [.d (.ept (aK n))] [] (.mref 0) [.mp 1 false (SV n).1]:=by
 have hg:=Xj (P0 hl);replace hl:=Xj hl;refine mj func46 ntmps46 results46 ?_;refine am ?_<;>intros;refine bo ae ak n.vpcs (fun _=>True) (fun k=>[(14,.d (.v (.int .i64 k))),(13,.d (.v (.int .i64 n.vpcs.length))),(12,.d (.sl 3 (n.vpcs.map al))),(3,.mref 0),(0,.d (.ept (aK n)))]) (fun k=>[.mp 1 false (mw (n.vpcs.take k))]) trivial (wf) ?_ ?_
 ·intro k v hv hk _ C hC;have dM:(k:Int) < (n.vpcs.length:Int):=by omega
  have cR:=wi k (by omega);have hs:mw (n.vpcs.take (k+1))=l9 (mw (n.vpcs.take k)) [v.id] v.id:=kW hv;replace hs:=Xj hs;refine am ?_<;>intros;exact hC _ _ trivial (wf (hh:=(by rw[hs.out];rfl)))
 ·intro _ C;rw[Xt];refine am ?_<;>intros;refine bo ae ak n.links (fun _=>True) (fun k=>[(29,.d (.v (.int .i64 k))),(28,.d (.v (.int .i64 n.links.length))),(27,.d (.sl 2 (n.links.map bG))),(3,.mref 0)]) (fun k=>[.mp 1 false ((n.links.take k).foldl pG (mw n.vpcs,fun x=>x)).1]) trivial (wf) ?_ ?_
  ·intro k l jc hk _ C hC;have dM:(k:Int) < (n.links.length:Int):=by omega
   have cR:=wi k (by omega);have hs:((n.links.take (k+1)).foldl pG (mw n.vpcs,fun x=>x)).1=l9 ((n.links.take k).foldl pG (mw n.vpcs,fun x=>x)).1 [((n.links.take k).foldl pG (mw n.vpcs,fun x=>x)).2 l.b] (((n.links.take k).foldl pG (mw n.vpcs,fun x=>x)).2 l.a):=by rw[kW jc];rfl
   have hm:=hl.out l (Xl jc);obtain⟨⟨na,ha⟩,-,-⟩:=hg.out k l.a hm.1;obtain⟨⟨nb,hb⟩,-,-⟩:=hg.out k l.b hm.2;generalize (n.links.take k).foldl pG (mw n.vpcs,fun x=>x)=S at*;have TM:=Av S.1 na l.a (S.2 l.a) ha;have TN:=Av S.1 nb l.b (S.2 l.b) hb;clear ha hb hm;replace hs:=Xj hs;repeat' (first|(with_reducible refine And.intro ?_ ?_)|(with_reducible refine cn (fun _=>?_) (fun _=>?_))|(with_reducible refine aA (fun _=>?_) (fun _=>?_))|(with_reducible refine be (by kernel_rfl))|simp -dsimp only[go_sem,seval, *,aK,bG,dM,cR,jc,undef]|((with_reducible refine bf ?_);simp -dsimp only[go_sem,seval,aK,bG,dM,cR,jc,undef];first|refine aC (by first|assumption|fail) (by first|exact .inl rfl|exact .inr rfl) ?_|(refine aB (by assumption) ?_ ?_ ?_;(solve|(repeat(first|exact ai.refl _|exact ai.nil _|(refine ai.tup ?_)|(refine ai.agg ?_ rfl)|exact trivial|(refine And.intro ?_ ?_))));(solve|exact .inl rfl|exact .inr rfl)))|(refine aX [0] (TN) ?_ ?_ ?_ ?_ ?_ ?_;(solve|rfl|simp only[go_sem,seval,bG]);(solve|rfl);(solve|decide);(solve|simp);(solve|simp only[go_sem,seval,ax,bG]))|(refine aX [0] (TM) ?_ ?_ ?_ ?_ ?_ ?_;(solve|rfl|simp only[go_sem,seval,bG]);(solve|rfl);(solve|decide);(solve|simp);(solve|simp only[go_sem,seval,ax,bG]))|omega|exact decide_eq_true (by omega)|exact ai.refl _)
   exact hC _ _ trivial (wf (hh:=(by rw[hs.out];rfl)))
  ·intro _ C;rw[Xt];refine am ?_<;>intros;all_goals exact bn rfl rfl
def aW (n:Net):Int→Int:=(SV n).2
def jT (n:Net)(v w:Vpc):Bool:=(aW n v.id==aW n w.id)&&dH v w
def eC (n:Net):Bool:=(X5 n.vpcs.length).all fun k=>match n.vpcs[k]? with|some v=>(n.vpcs.take k).all fun w=>!jT n v w|none=>true
theorem sH {n:Net}{i j:Nat}{v w:Vpc}(hij:j < i)(hv:n.vpcs[i]? =some v)(hw:n.vpcs[j]? =some w)(h:jT n v w=true):eC n=false:=by
 unfold eC;rw[Y2];refine⟨i,YR.2 (Xn.1 hv).1,?_⟩;rw[hv];simp only[ZI,Y2];exact⟨w,Xl (i:=j) (by rw[XS hij];exact hw),by rw[h];simp⟩
theorem p8 {n:Net}(h:∀(i:Nat) (v w:Vpc),n.vpcs[i]? =some v→w∈n.vpcs.take i→jT n v w=false):eC n=true:=by
 unfold eC;rw[XC];intro i hi;have hl:=YR.1 hi;rw[Xk hl];simp only[XC];intro w hw;rw[h i _ w (Xk hl) hw];rfl
theorem Ax (n:Net)(h1:n.vpcs.length≤1000000000)(h2:n.links.length≤1000000000)(hr:∀v∈n.vpcs,v.ranges.length≤1000000000)(hl:∀l∈n.links,l.a∈n.vpcs.map (·.id)∧l.b∈n.vpcs.map (·.id)):
 af prog 99 [.ept (aK n)] (.v (.bool (eC n))):=by
 have WH:=UP n h1 h2 hl;have hg:∀x∈n.vpcs.map (·.id),∃k,kV (SV n).1 k x (aW n x):=fun x hx=>by
  have:=(P0 hl n.links.length x (by exact hx)).1;rwa [Xt]at this
 replace hg:=Xj hg;replace hr:=Xj hr;clear hl;obtain⟨R,hR⟩:∃R,R=eC n:=⟨_,rfl⟩;rw[←hR];replace hR:=Xj hR;generalize (SV n).1=E at*;refine pj func99 ntmps99 results99 ?_;have z1z:=Ln.mk (ls:=[]) (WH);refine am ?_<;>intros;clear WH;refine bo ae ak n.vpcs (fun k=>∀(i:Nat) (v w:Vpc),i < k→n.vpcs[i]? =some v→w∈n.vpcs.take i→jT n v w=false) (fun k=>[(15,.d (.v (.int .i64 k))),(14,.d (.v (.int .i64 n.vpcs.length))),(13,.d (.sl 3 (n.vpcs.map al))),(3,.mref 0),(2,.d (.v (.bool false))),(0,.d (.ept (aK n)))]) (fun _=>[.mp 1 false E]) (fun i v w h=>absurd h (YJ _)) (wf) ?_ ?_
 ·intro k v hv hk hI C hC;have dM:(k:Int) < (n.vpcs.length:Int):=by omega
  have cR:=wi k (by omega);have uI:k≤n.vpcs.length:=by omega
  have rV:=Xl hv;have zN:=hr.out v rV;obtain⟨nv,WI⟩:=hg.out v.id (XQ.2 ⟨v,rV,rfl⟩);have Ve:=Av E nv v.id (aW n v.id) WI;have hlt:(n.vpcs.take k).length=k:=by rw[Xq];omega
  have oP:((n.vpcs.map al).take k).length=k:=by rw[←ZH,XD];exact hlt
  clear WI;replace hI:=Xj hI;refine am ?_<;>intros;refine bo ae ak (n.vpcs.take k) (fun j=>∀w∈(n.vpcs.take k).take j,jT n v w=false) (fun j=>[(27,.d (.v (.int .i64 j))),(26,.d (.v (.int .i64 k))),(25,.d (.sl 3 ((n.vpcs.map al).take k))),(5,.ptr 1 0),(15,.d (.v (.int .i64 k))),(14,.d (.v (.int .i64 n.vpcs.length))),(13,.d (.sl 3 (n.vpcs.map al))),(3,.mref 0),(2,.d (.v (.bool false))),(0,.d (.ept (aK n)))]) (fun _=>[.mp 1 false E,.box 55 ((al v).map .d)]) (fun w hw=>by simp at hw) (wf) ?_ ?_
  ·intro j w hw hj hJ C2 jI;have ip:(j:Int) < (k:Int):=by omega
   have lV:((n.vpcs.map al).take k)[j]? =some (al w):=by rw[←ZH,Xz,hw];rfl
   have kj:=wi j (by omega);have A8:j < k:=by omega
   have cD:n.vpcs[j]? =some w:=by rw[XS A8]at hw;exact hw
   have A9:=Xl cD;have Vf:=hr.out w A9;obtain⟨nw,WJ⟩:=hg.out w.id (XQ.2 ⟨w,A9,rfl⟩);have Vg:=Av E nw w.id (aW n w.id) WJ;have fV:=Oh v w zN Vf;have bI:jT n v w=true→R=false:=fun h=>by rw[hR.out];exact sH A8 hv cD h
   have rW:jT n v w=false→∀u∈(n.vpcs.take k).take (j+1),jT n v u=false:=fun h u hu=>by
    rw[ag hw]at hu;rcases X3.1 hu with hu|hu
    ·exact hJ u hu
    ·rw[Yc.1 hu];exact h
   have gT:jT n v w=((aW n v.id==aW n w.id)&&dH v w):=rfl;clear WJ hlt oP;replace bI:=Xj bI;replace rW:=Xj rW;replace gT:=Xj gT;replace hJ:=Xj hJ;replace hw:=Xj hw;generalize (n.vpcs.map al).take k=L at*;cases e1:(aW n v.id==aW n w.id)with
   |false=>
    have hf:=Xj (rW.out (by rw[gT.out,e1];rfl));repeat' (first|(with_reducible refine And.intro ?_ ?_)|(with_reducible refine cn (fun _=>?_) (fun _=>?_))|(with_reducible refine aA (fun _=>?_) (fun _=>?_))|(with_reducible refine be (by kernel_rfl))|simp -dsimp only[go_sem,seval, *,al,ip,kj,lV,e1,undef]|((with_reducible refine bf ?_);simp -dsimp only[go_sem,seval,al,ip,kj,lV,e1,undef];first|refine aC (by first|assumption|fail) (by first|exact .inl rfl|exact .inr rfl) ?_|(refine aB (by assumption) ?_ ?_ ?_;(solve|(repeat(first|exact ai.refl _|exact ai.nil _|(refine ai.tup ?_)|(refine ai.agg ?_ rfl)|exact trivial|(refine And.intro ?_ ?_))));(solve|exact .inl rfl|exact .inr rfl)))|(refine aX [0] (Ve) ?_ ?_ ?_ ?_ ?_ ?_;(solve|rfl|simp only[go_sem,seval,al]);(solve|rfl);(solve|decide);(solve|simp);(solve|simp only[go_sem,seval,ax,al]))|(refine aX [0] (Vg) ?_ ?_ ?_ ?_ ?_ ?_;(solve|rfl|simp only[go_sem,seval,al]);(solve|rfl);(solve|decide);(solve|simp);(solve|simp only[go_sem,seval,ax,al]))|omega|exact decide_eq_true (by omega)|exact ai.refl _)
    exact jI _ _ hf.out (wf)
   |true=>
    cases e2:dH v w with
    |true=>
     have hb:R=false:=bI.out (by rw[gT.out,e1,e2];rfl);rw[hb];replace hb:=Xj hb;rw[e2]at fV;repeat' (first|(with_reducible refine And.intro ?_ ?_)|(with_reducible refine cn (fun _=>?_) (fun _=>?_))|(with_reducible refine aA (fun _=>?_) (fun _=>?_))|(with_reducible refine be (by kernel_rfl))|simp -dsimp only[go_sem,seval, *,al,ip,kj,lV,e1,undef]|((with_reducible refine bf ?_);simp -dsimp only[go_sem,seval,al,ip,kj,lV,e1,undef];first|refine aC (by first|assumption|exact fV) (by first|exact .inl rfl|exact .inr rfl) ?_|(refine aB (by assumption) ?_ ?_ ?_;(solve|(repeat(first|exact ai.refl _|exact ai.nil _|(refine ai.tup ?_)|(refine ai.agg ?_ rfl)|exact trivial|(refine And.intro ?_ ?_))));(solve|exact .inl rfl|exact .inr rfl)))|(refine aX [0] (Ve) ?_ ?_ ?_ ?_ ?_ ?_;(solve|rfl|simp only[go_sem,seval,al]);(solve|rfl);(solve|decide);(solve|simp);(solve|simp only[go_sem,seval,ax,al]))|(refine aX [0] (Vg) ?_ ?_ ?_ ?_ ?_ ?_;(solve|rfl|simp only[go_sem,seval,al]);(solve|rfl);(solve|decide);(solve|simp);(solve|simp only[go_sem,seval,ax,al]))|omega|exact decide_eq_true (by omega)|exact ai.refl _)
     all_goals exact ai.refl _
    |false=>
     have hf:=Xj (rW.out (by rw[gT.out,e1,e2];rfl));rw[e2]at fV;repeat' (first|(with_reducible refine And.intro ?_ ?_)|(with_reducible refine cn (fun _=>?_) (fun _=>?_))|(with_reducible refine aA (fun _=>?_) (fun _=>?_))|(with_reducible refine be (by kernel_rfl))|simp -dsimp only[go_sem,seval, *,al,ip,kj,lV,e1,undef]|((with_reducible refine bf ?_);simp -dsimp only[go_sem,seval,al,ip,kj,lV,e1,undef];first|refine aC (by first|assumption|exact fV) (by first|exact .inl rfl|exact .inr rfl) ?_|(refine aB (by assumption) ?_ ?_ ?_;(solve|(repeat(first|exact ai.refl _|exact ai.nil _|(refine ai.tup ?_)|(refine ai.agg ?_ rfl)|exact trivial|(refine And.intro ?_ ?_))));(solve|exact .inl rfl|exact .inr rfl)))|(refine aX [0] (Ve) ?_ ?_ ?_ ?_ ?_ ?_;(solve|rfl|simp only[go_sem,seval,al]);(solve|rfl);(solve|decide);(solve|simp);(solve|simp only[go_sem,seval,ax,al]))|(refine aX [0] (Vg) ?_ ?_ ?_ ?_ ?_ ?_;(solve|rfl|simp only[go_sem,seval,al]);(solve|rfl);(solve|decide);(solve|simp);(solve|simp only[go_sem,seval,ax,al]))|omega|exact decide_eq_true (by omega)|exact ai.refl _)
     exact jI _ _ hf.out (wf)
  ·intro hJ C2;rw[Xt]at hJ;have lU:∀(i:Nat) (u w:Vpc),i < k+1→n.vpcs[i]? =some u→w∈n.vpcs.take i→jT n u w=false:=fun i u w hi hu hw=>by
    rcases XP i k with h|h
    ·exact hI.out i u w h hu hw
    ·obtain rfl:i=k:=by omega
     rw[hv]at hu;rw[←XX.inj hu];exact hJ w hw
   replace lU:=Xj lU;replace hJ:=Xj hJ;rw[hlt];refine am ?_<;>intros;exact hC _ _ lU.out (wf)
 ·intro hI C;have hb:R=true:=by
   rw[hR.out];exact p8 fun i v w hv hw=>hI i v w (Xn.1 hv).1 hv hw
  rw[hb];replace hb:=Xj hb;replace hI:=Xj hI;exact bc;all_goals exact ai.refl _
def kZ (n:Net)(l:Lnk):Bool:=(fP n l.a).isSome&&((fP n l.b).isSome&&decide (l.a < l.b))
def je:List Lnk→Bool
 |l::m::ls=>decide (rj l m < 0)&&je (m::ls)
 |_=>true
theorem Ay:∀(l:List Lnk),je l=true↔∀j (h:j+1 < l.length),rj l[j] l[j+1] < 0
 |[]=>by simp[je]
 |[a]=>by simp[je]
 |a::b::l=>by
  have ih:=Ay (b::l);simp only[je,Xy,decide_eq_true_eq,ih];constructor
  ·rintro⟨h1,h2⟩ j hj;cases j with
   |zero=>exact h1
   |succ j=>exact h2 j (by simpa using hj)
  ·intro h;exact⟨h 0 (by simp),fun j hj=>h (j+1) (by simpa using hj)⟩
def ox (n:Net):Bool:=n.vpcs.all (fun v=>bN v==0)&&fh (·.id) n.vpcs
def cN (n:Net):Int:=if n.vpcs.length>6∨n.links.length>12 then 2 else if ox n&&(n.links.all (kZ n)&&(je n.links&&eC n))then 0 else 1
theorem fR {n:Net}{x:Int}(h:(fP n x).isSome=true):x∈n.vpcs.map (·.id):=by
 obtain⟨v,hv⟩:=Zf.1 h;unfold fP at hv;have h1:=YF hv;have h2:=Zh hv;exact XQ.2 ⟨v,h1,by simpa using h2⟩
theorem hO {n:Net}(h0:¬(n.vpcs.length>6∨n.links.length>12))(h:ox n=false∨n.links.all (kZ n)=false∨je n.links=false∨eC n=false):cN n=1:=by
 unfold cN;rw[if_neg h0];rcases h with h|h|h|h<;>simp[h]
theorem sI {n:Net}(h0:¬(n.vpcs.length>6∨n.links.length>12))(h1:ox n=true)(h2:n.links.all (kZ n)=true)(h3:je n.links=true)(h4:eC n=true):cN n=0:=by
 unfold cN;rw[if_neg h0,h1,h2,h3,h4];rfl
def lH (l:List Vpc):Int:=(l.getLast?.map (·.id)).getD 0
theorem p9 (l:List Vpc)(v:Vpc):lH (l++[v])=v.id:=by simp[lH]
theorem vM {l:List Vpc}(hs:l.Pairwise fun a b=>a.id < b.id){v:Vpc}(h:lH l < v.id):(l++[v]).Pairwise fun a b=>a.id < b.id:=by
 rw[YT];refine⟨hs,by simp,fun a ha b hb=>?_⟩;rw[Yc.1 hb];rcases List.eq_nil_or_concat l with rfl|⟨l',x,rfl⟩
 ·cases ha
 ·rw[List.concat_eq_append]at*;rw[p9]at h;rw[YT]at hs;rcases X3.1 ha with ha|ha
  ·have:=hs.2.2 a ha x (by simp);omega
  ·rw[Yc.1 ha];exact h
theorem y9 {l:List Vpc}{v:Vpc}(hv:1≤v.id)(h:v.id≤lH l):¬(l++[v]).Pairwise fun a b=>a.id < b.id:=by
 intro hp;rw[YT]at hp;rcases List.eq_nil_or_concat l with rfl|⟨l',x,rfl⟩
 ·simp[lH]at h;omega
 ·rw[List.concat_eq_append]at*;rw[p9]at h;have:=hp.2.2 x (by simp) v (by simp);omega
theorem k5 {n:Net}(h:ox n=true)(k:Nat):(∀v∈n.vpcs.take k,bN v=0)∧(n.vpcs.take k).Pairwise fun a b=>a.id < b.id:=by
 unfold ox at h;simp only[Xy,XC,f5,beq_iff_eq]at h;exact⟨fun v hv=>h.1 v (Yf hv),h.2.sublist (O' _ _)⟩
theorem vN {n:Net}(h1:∀v∈n.vpcs,bN v=0)(h2:n.vpcs.Pairwise fun a b=>a.id < b.id):ox n=true:=by
 unfold ox;simp only[Xy,XC,f5,beq_iff_eq];exact⟨h1,h2⟩
theorem sJ:∀(l:List Lnk) (x:Lnk),je (l++[x])=(je l&&(match l.getLast? with|some y=>decide (rj y x < 0)|none=>true))
 |[],x=>rfl
 |[a],x=>by simp[je]
 |a::b::l,x=>by
  have ih:=sJ (b::l) x;have e:(a::b::l).getLast? =(b::l).getLast? :=by simp[List.getLast?_cons_cons]
  rw[X8,X8,je,←X8,ih,e,je,P']
theorem za {l:List Lnk}(h:je l=true)(k:Nat):je (l.take k)=true:=by
 rw[Ay]at h ⊢;intro j hj;rw[ZA,ZA];exact h j (by rw[Xq]at hj;omega)
theorem sK {α:Type}{l:List α}{j:Nat}{y:α}(h:l[j]? =some y):(l.take (j+1)).getLast? =some y:=by rw[ag h];simp
theorem vO (n:Net):af prog 33 [.agg (aK n)] (.v (.int .i64 (cN n))):=by
 obtain⟨R,hR⟩:∃R,R=cN n:=⟨_,rfl⟩;rw[←hR];replace hR:=Xj hR;by_cases h6:n.vpcs.length>6
 ·have TO:decide ((n.vpcs.length:Int)>6)=true:=by simp;omega
  have hr:R=2:=by rw[hR.out,cN,if_pos (.inl h6)]
  rw[hr];replace hr:=Xj hr;refine pj func33 ntmps33 results33 ?_;exact bc;all_goals exact ai.refl _
 by_cases MS:n.links.length>12
 ·have TO:decide ((n.vpcs.length:Int)>6)=false:=by simp;omega
  have RN:decide ((n.links.length:Int)>12)=true:=by simp;omega
  have hr:R=2:=by rw[hR.out,cN,if_pos (.inr MS)]
  rw[hr];replace hr:=Xj hr;refine pj func33 ntmps33 results33 ?_;exact bc;all_goals exact ai.refl _
 have TO:decide ((n.vpcs.length:Int)>6)=false:=by simp;omega
 have RN:decide ((n.links.length:Int)>12)=false:=by simp;omega
 have cg:¬(n.vpcs.length>6∨n.links.length>12):=by omega
 refine pj func33 ntmps33 results33 ?_;refine am ?_<;>intros;refine bo ae ak n.vpcs (fun k=>(∀v∈n.vpcs.take k,bN v=0)∧(n.vpcs.take k).Pairwise fun a b=>a.id < b.id) (fun k=>[(25,.d (.v (.int .i64 k))),(24,.d (.v (.int .i64 n.vpcs.length))),(23,.d (.sl 3 (n.vpcs.map al))),(3,.d (.v (.int .i64 (lH (n.vpcs.take k))))),(2,.d (.v (.int .i64 0))),(1,.ptr 0 0)]) (fun _=>[.box 28 ((aK n).map .d)]) (by simp) (wf) ?_ ?_
 ·intro k v hv hk hI C hC;have dM:(k:Int) < (n.vpcs.length:Int):=by omega
  have cR:=wi k (by omega);have g7:=ag hv;have Bd:lH (n.vpcs.take (k+1))=v.id:=by rw[g7,p9]
  have Vh:=ot v;obtain⟨LA,RO⟩:∃x,x=lH (n.vpcs.take k):=⟨_,rfl⟩;rw[←RO];by_cases hc:bN v=0
  ·have hid:1≤v.id:=by have:=(aY hc).id;simp[cI]at this;exact this.1
   rw[hc]at Vh;by_cases hle:v.id≤LA
   ·have hr:R=1:=by
     rw[hR.out];refine hO cg (.inl ?_);cases hb:ox n with
     |false=>rfl
     |true=>
      have:=(k5 hb (k+1)).2;rw[g7]at this;exact absurd this (y9 hid (by rw[←RO];exact hle))
    rw[hr];clear hr hI hid hC RO Bd g7;replace hc:=Xj hc;exact bc;all_goals exact ai.refl _
   ·have lU:(∀v∈n.vpcs.take (k+1),bN v=0)∧(n.vpcs.take (k+1)).Pairwise fun a b=>a.id < b.id:=by
     rw[g7];exact⟨fun u hu=>by
      rcases X3.1 hu with hu|hu
      ·exact hI.1 u hu
      ·rw[Yc.1 hu];exact hc,vM hI.2 (by rw[←RO];omega)⟩
    have jn:decide (v.id≤LA)=false:=by simpa using hle
    clear hI hid g7;replace hc:=Xj hc;replace hle:=Xj hle;replace lU:=Xj lU;replace Bd:=Xj Bd;replace RO:=Xj RO;refine am ?_<;>intros;refine hC _ _ lU.out ?_;simp only[Bd.out];exact wf
  ·have hr:R=1:=by
    rw[hR.out];refine hO cg (.inl ?_);cases hb:ox n with
    |false=>rfl
    |true=>exact absurd ((k5 hb (k+1)).1 v (by rw[g7];simp)) hc
   have hcb:(bN v !=0)=true:=by simpa using hc
   rw[hr];clear hr hI hC RO Bd g7;replace hc:=Xj hc;exact bc;all_goals exact ai.refl _
 ·intro hI C;rw[Xt]at hI ⊢;have MT:=vN hI.1 hI.2;have nJ:=hI.2;generalize lH n.vpcs=LA;replace hI:=Xj hI;replace nJ:=Xj nJ;replace MT:=Xj MT;refine am ?_<;>intros;refine bo ae ak n.links (fun k=>(∀l∈n.links.take k,kZ n l=true)∧je (n.links.take k)=true) (fun k=>[(44,.d (.v (.int .i64 k))),(43,.d (.v (.int .i64 n.links.length))),(42,.d (.sl 2 (n.links.map bG))),(2,.d (.v (.int .i64 0))),(1,.ptr 0 0)]) (fun _=>[.box 28 ((aK n).map .d)]) (by simp[je]) (wf) ?_ ?_
  ·intro k l hl hk hJ C hC;have dM:(k:Int) < (n.links.length:Int):=by omega
   have cR:=wi k (by omega);have g7:=ag hl;have j8:=CE n l.a (by omega) nJ.out;have lz:=CE n l.b (by omega) nJ.out;have bI:kZ n l=false→R=1:=fun h=>by
    rw[hR.out];refine hO cg (.inr (.inl ?_));rw[Y2];exact⟨l,Xl hl,by simp[h]⟩
   have jn:kZ n l=((fP n l.a).isSome&&((fP n l.b).isSome&&decide (l.a < l.b))):=rfl;have gW:kZ n l=true→je (n.links.take (k+1))=true→(∀l∈n.links.take (k+1),kZ n l=true)∧je (n.links.take (k+1))=true:=fun h g=>by
    refine⟨?_,g⟩;rw[g7];intro u hu;rcases X3.1 hu with hu|hu
    ·exact hJ.1 u hu
    ·rw[Yc.1 hu];exact h
   have xd:je (n.links.take (k+1))=false→R=1:=fun h=>by
    rw[hR.out];refine hO cg (.inr (.inr (.inl ?_)));cases hb:je n.links with
    |false=>rfl
    |true=>rw[za hb]at h;cases h
   have ta:=sJ (n.links.take k) l;rw[←g7,hJ.2,Yr]at ta;clear g7;replace hJ:=Xj hJ;replace bI:=Xj bI;replace xd:=Xj xd;replace gW:=Xj gW;cases ea:fP n l.a with
   |none=>
    rw[ea]at j8 jn;have hr:R=1:=bI.out (by rw[jn];rfl);rw[hr];clear hr jn ta;replace ea:=Xj ea;cases eb:fP n l.b with
    |none=>
     rw[eb]at lz;replace eb:=Xj eb;repeat' (first|(with_reducible refine And.intro ?_ ?_)|(with_reducible refine cn (fun _=>?_) (fun _=>?_))|(with_reducible refine aA (fun _=>?_) (fun _=>?_))|(with_reducible refine be (by kernel_rfl))|simp -dsimp only[go_sem,seval, *,aK,bG,ce,b9,dM,hl,undef]|((with_reducible refine bf ?_);simp -dsimp only[go_sem,seval,aK,bG,ce,b9,dM,hl,undef];first|refine aC (by first|assumption|fail) (by first|exact .inl rfl|exact .inr rfl) ?_|(refine aB (by assumption) ?_ ?_ ?_;(solve|(repeat(first|exact ai.refl _|exact ai.nil _|(refine ai.tup ?_)|(refine ai.agg ?_ rfl)|exact trivial|(refine And.intro ?_ ?_))));(solve|exact .inl rfl|exact .inr rfl)))|(refine aX [0] (j8) ?_ ?_ ?_ ?_ ?_ ?_;(solve|rfl|simp only[go_sem,seval,aK,ce,b9]);(solve|rfl);(solve|decide);(solve|simp);(solve|simp only[go_sem,seval,ax,aK,ce,b9]))|(refine aX [0] (lz) ?_ ?_ ?_ ?_ ?_ ?_;(solve|rfl|simp only[go_sem,seval,aK,ce,b9]);(solve|rfl);(solve|decide);(solve|simp);(solve|simp only[go_sem,seval,ax,aK,ce,b9]))|omega|exact decide_eq_true (by omega)|exact ai.refl _)
     all_goals exact ai.refl _
    |some w=>
     rw[eb]at lz;replace eb:=Xj eb;repeat' (first|(with_reducible refine And.intro ?_ ?_)|(with_reducible refine cn (fun _=>?_) (fun _=>?_))|(with_reducible refine aA (fun _=>?_) (fun _=>?_))|(with_reducible refine be (by kernel_rfl))|simp -dsimp only[go_sem,seval, *,aK,bG,ce,b9,dM,hl,undef]|((with_reducible refine bf ?_);simp -dsimp only[go_sem,seval,aK,bG,ce,b9,dM,hl,undef];first|refine aC (by first|assumption|fail) (by first|exact .inl rfl|exact .inr rfl) ?_|(refine aB (by assumption) ?_ ?_ ?_;(solve|(repeat(first|exact ai.refl _|exact ai.nil _|(refine ai.tup ?_)|(refine ai.agg ?_ rfl)|exact trivial|(refine And.intro ?_ ?_))));(solve|exact .inl rfl|exact .inr rfl)))|(refine aX [0] (j8) ?_ ?_ ?_ ?_ ?_ ?_;(solve|rfl|simp only[go_sem,seval,aK,ce,b9]);(solve|rfl);(solve|decide);(solve|simp);(solve|simp only[go_sem,seval,ax,aK,ce,b9]))|(refine aX [0] (lz) ?_ ?_ ?_ ?_ ?_ ?_;(solve|rfl|simp only[go_sem,seval,aK,ce,b9]);(solve|rfl);(solve|decide);(solve|simp);(solve|simp only[go_sem,seval,ax,aK,ce,b9]))|omega|exact decide_eq_true (by omega)|exact ai.refl _)
     all_goals exact ai.refl _
   |some v=>
    rw[ea]at j8 jn;replace ea:=Xj ea;cases eb:fP n l.b with
    |none=>
     rw[eb]at lz jn;have hr:R=1:=bI.out (by rw[jn];rfl);rw[hr];clear hr jn ta;replace eb:=Xj eb;repeat' (first|(with_reducible refine And.intro ?_ ?_)|(with_reducible refine cn (fun _=>?_) (fun _=>?_))|(with_reducible refine aA (fun _=>?_) (fun _=>?_))|(with_reducible refine be (by kernel_rfl))|simp -dsimp only[go_sem,seval, *,aK,bG,ce,b9,dM,hl,undef]|((with_reducible refine bf ?_);simp -dsimp only[go_sem,seval,aK,bG,ce,b9,dM,hl,undef];first|refine aC (by first|assumption|fail) (by first|exact .inl rfl|exact .inr rfl) ?_|(refine aB (by assumption) ?_ ?_ ?_;(solve|(repeat(first|exact ai.refl _|exact ai.nil _|(refine ai.tup ?_)|(refine ai.agg ?_ rfl)|exact trivial|(refine And.intro ?_ ?_))));(solve|exact .inl rfl|exact .inr rfl)))|(refine aX [0] (j8) ?_ ?_ ?_ ?_ ?_ ?_;(solve|rfl|simp only[go_sem,seval,aK,ce,b9]);(solve|rfl);(solve|decide);(solve|simp);(solve|simp only[go_sem,seval,ax,aK,ce,b9]))|(refine aX [0] (lz) ?_ ?_ ?_ ?_ ?_ ?_;(solve|rfl|simp only[go_sem,seval,aK,ce,b9]);(solve|rfl);(solve|decide);(solve|simp);(solve|simp only[go_sem,seval,ax,aK,ce,b9]))|omega|exact decide_eq_true (by omega)|exact ai.refl _)
     all_goals exact ai.refl _
    |some w=>
     rw[eb]at lz jn;replace eb:=Xj eb;by_cases gJ:l.a < l.b
     ·have hge:decide (l.a≥l.b)=false:=by simp;omega
      have hlt:kZ n l=true:=by rw[jn];simp[gJ]
      clear jn;replace hlt:=Xj hlt;by_cases hk0:k=0
      ·have MU:decide ((k:Int)>0)=false:=by simp;omega
       have hg:=gW.out hlt.out (by rw[ta,hk0];rfl);clear ta;replace hg:=Xj hg;replace hk0:=Xj hk0;replace gJ:=Xj gJ;repeat' (first|(with_reducible refine And.intro ?_ ?_)|(with_reducible refine cn (fun _=>?_) (fun _=>?_))|(with_reducible refine aA (fun _=>?_) (fun _=>?_))|(with_reducible refine be (by kernel_rfl))|simp -dsimp only[go_sem,seval, *,aK,bG,ce,b9,dM,cR,hl,hge,MU,undef]|((with_reducible refine bf ?_);simp -dsimp only[go_sem,seval,aK,bG,ce,b9,dM,cR,hl,hge,MU,undef];first|refine aC (by first|assumption|fail) (by first|exact .inl rfl|exact .inr rfl) ?_|(refine aB (by assumption) ?_ ?_ ?_;(solve|(repeat(first|exact ai.refl _|exact ai.nil _|(refine ai.tup ?_)|(refine ai.agg ?_ rfl)|exact trivial|(refine And.intro ?_ ?_))));(solve|exact .inl rfl|exact .inr rfl)))|(refine aX [0] (j8) ?_ ?_ ?_ ?_ ?_ ?_;(solve|rfl|simp only[go_sem,seval,aK,ce,b9]);(solve|rfl);(solve|decide);(solve|simp);(solve|simp only[go_sem,seval,ax,aK,ce,b9]))|(refine aX [0] (lz) ?_ ?_ ?_ ?_ ?_ ?_;(solve|rfl|simp only[go_sem,seval,aK,ce,b9]);(solve|rfl);(solve|decide);(solve|simp);(solve|simp only[go_sem,seval,ax,aK,ce,b9]))|omega|exact decide_eq_true (by omega)|exact ai.refl _)
       exact hC _ _ hg.out (wf)
      ·obtain⟨j,hj⟩:∃j,k=j+1:=⟨k - 1,by omega⟩;obtain⟨y,hy⟩:∃y,n.links[j]? =some y:=⟨_,Xk (by omega)⟩;have MU:decide ((k:Int)>0)=true:=by simp;omega
       have cl:IntKind.i64.wrap ((k:Int) - 1)=(j:Int):=by rw[IntKind.wrap_i64];omega
       have ip:(j:Int) < (n.links.length:Int):=by omega
       have TP:=Oi y l;rw[hj,sK hy]at ta;simp only at ta;rw[←hj]at ta;replace hj:=Xj hj;replace hk0:=Xj hk0;replace gJ:=Xj gJ;by_cases ho:rj y l < 0
       ·have hg:=gW.out hlt.out (by rw[ta];simpa using ho);have gp:decide (rj y l≥0)=false:=by simpa using ho
        clear ta;replace hg:=Xj hg;replace ho:=Xj ho;generalize rj y l=O at*;repeat' (first|(with_reducible refine And.intro ?_ ?_)|(with_reducible refine cn (fun _=>?_) (fun _=>?_))|(with_reducible refine aA (fun _=>?_) (fun _=>?_))|(with_reducible refine be (by kernel_rfl))|simp -dsimp only[go_sem,seval, *,aK,bG,ce,b9,dM,cR,hl,hge,MU,cl,ip,hy,gp,undef]|((with_reducible refine bf ?_);simp -dsimp only[go_sem,seval,aK,bG,ce,b9,dM,cR,hl,hge,MU,cl,ip,hy,gp,undef];first|refine aC (by first|assumption|exact TP) (by first|exact .inl rfl|exact .inr rfl) ?_|(refine aB (by assumption) ?_ ?_ ?_;(solve|(repeat(first|exact ai.refl _|exact ai.nil _|(refine ai.tup ?_)|(refine ai.agg ?_ rfl)|exact trivial|(refine And.intro ?_ ?_))));(solve|exact .inl rfl|exact .inr rfl)))|(refine aX [0] (j8) ?_ ?_ ?_ ?_ ?_ ?_;(solve|rfl|simp only[go_sem,seval,aK,ce,b9]);(solve|rfl);(solve|decide);(solve|simp);(solve|simp only[go_sem,seval,ax,aK,ce,b9]))|(refine aX [0] (lz) ?_ ?_ ?_ ?_ ?_ ?_;(solve|rfl|simp only[go_sem,seval,aK,ce,b9]);(solve|rfl);(solve|decide);(solve|simp);(solve|simp only[go_sem,seval,ax,aK,ce,b9]))|omega|exact decide_eq_true (by omega)|exact ai.refl _)
        exact hC _ _ hg.out (wf)
       ·have hr:R=1:=xd.out (by rw[ta];simpa using ho);have gp:decide (rj y l≥0)=true:=by simpa using ho
        rw[hr];clear ta hr;replace ho:=Xj ho;generalize rj y l=O at*;repeat' (first|(with_reducible refine And.intro ?_ ?_)|(with_reducible refine cn (fun _=>?_) (fun _=>?_))|(with_reducible refine aA (fun _=>?_) (fun _=>?_))|(with_reducible refine be (by kernel_rfl))|simp -dsimp only[go_sem,seval, *,aK,bG,ce,b9,dM,cR,hl,hge,MU,cl,ip,hy,gp,undef]|((with_reducible refine bf ?_);simp -dsimp only[go_sem,seval,aK,bG,ce,b9,dM,cR,hl,hge,MU,cl,ip,hy,gp,undef];first|refine aC (by first|assumption|exact TP) (by first|exact .inl rfl|exact .inr rfl) ?_|(refine aB (by assumption) ?_ ?_ ?_;(solve|(repeat(first|exact ai.refl _|exact ai.nil _|(refine ai.tup ?_)|(refine ai.agg ?_ rfl)|exact trivial|(refine And.intro ?_ ?_))));(solve|exact .inl rfl|exact .inr rfl)))|(refine aX [0] (j8) ?_ ?_ ?_ ?_ ?_ ?_;(solve|rfl|simp only[go_sem,seval,aK,ce,b9]);(solve|rfl);(solve|decide);(solve|simp);(solve|simp only[go_sem,seval,ax,aK,ce,b9]))|(refine aX [0] (lz) ?_ ?_ ?_ ?_ ?_ ?_;(solve|rfl|simp only[go_sem,seval,aK,ce,b9]);(solve|rfl);(solve|decide);(solve|simp);(solve|simp only[go_sem,seval,ax,aK,ce,b9]))|omega|exact decide_eq_true (by omega)|exact ai.refl _)
        all_goals exact ai.refl _
     ·have hge:decide (l.a≥l.b)=true:=by simp;omega
      have hr:R=1:=bI.out (by rw[jn];simp;omega);rw[hr];clear hr jn ta;replace gJ:=Xj gJ;repeat' (first|(with_reducible refine And.intro ?_ ?_)|(with_reducible refine cn (fun _=>?_) (fun _=>?_))|(with_reducible refine aA (fun _=>?_) (fun _=>?_))|(with_reducible refine be (by kernel_rfl))|simp -dsimp only[go_sem,seval, *,aK,bG,ce,b9,dM,hl,hge,undef]|((with_reducible refine bf ?_);simp -dsimp only[go_sem,seval,aK,bG,ce,b9,dM,hl,hge,undef];first|refine aC (by first|assumption|fail) (by first|exact .inl rfl|exact .inr rfl) ?_|(refine aB (by assumption) ?_ ?_ ?_;(solve|(repeat(first|exact ai.refl _|exact ai.nil _|(refine ai.tup ?_)|(refine ai.agg ?_ rfl)|exact trivial|(refine And.intro ?_ ?_))));(solve|exact .inl rfl|exact .inr rfl)))|(refine aX [0] (j8) ?_ ?_ ?_ ?_ ?_ ?_;(solve|rfl|simp only[go_sem,seval,aK,ce,b9]);(solve|rfl);(solve|decide);(solve|simp);(solve|simp only[go_sem,seval,ax,aK,ce,b9]))|(refine aX [0] (lz) ?_ ?_ ?_ ?_ ?_ ?_;(solve|rfl|simp only[go_sem,seval,aK,ce,b9]);(solve|rfl);(solve|decide);(solve|simp);(solve|simp only[go_sem,seval,ax,aK,ce,b9]))|omega|exact decide_eq_true (by omega)|exact ai.refl _)
      all_goals exact ai.refl _
  ·intro hJ C;rw[Xt]at hJ;have D2:=Ax n (by omega) (by omega) (fun v hv=>by have:=(aY (hI.out.1 v hv)).n4;omega) (fun l hl=>by
    have:=hJ.1 l hl;unfold kZ at this;simp only[Xy]at this;exact⟨fR this.1,fR this.2.1⟩)
   have hr:R=if eC n=true then 0 else 1:=by
    rw[hR.out];split
    ·rename_i hp;exact sI cg MT.out (by rw[XC];exact hJ.1) hJ.2 hp
    ·rename_i hp;exact hO cg (.inr (.inr (.inr (by simpa using hp))))
   rw[hr];clear hr;replace hJ:=Xj hJ;cases hp:eC n with
   |true=>
    rw[hp]at D2;replace hp:=Xj hp;exact bc;all_goals exact ai.refl _
   |false=>
    rw[hp]at D2;replace hp:=Xj hp;exact bc;all_goals exact ai.refl _
structure NetOK (n:Net):Prop where
 n6:n.vpcs.length≤6
 n12:n.links.length≤12
 vp:∀v∈n.vpcs,bN v=0
 rise:n.vpcs.Pairwise fun a b=>a.id < b.id
 lk:∀l∈n.links,kZ n l=true
 rk:je n.links=true
 pe:eC n=true
theorem gU {n:Net}:cN n=0↔NetOK n:=by
 constructor
 ·intro h;unfold cN at h;split at h
  ·cases h
  ·rename_i h0;split at h
   ·rename_i h1;simp only[Xy]at h1;have:=k5 h1.1 n.vpcs.length;rw[Xt]at this;exact⟨by omega,by omega,this.1,this.2,by simpa using h1.2.1,h1.2.2.1,h1.2.2.2⟩
   ·cases h
 ·rintro⟨a,b,c,d,e,f,g⟩;exact sI (by omega) (vN c d) (by simpa using e) f g
theorem NetOK.ids {n:Net}(h:NetOK n):∀l∈n.links,l.a∈n.vpcs.map (·.id)∧l.b∈n.vpcs.map (·.id):=fun l hl=>by
 have:=h.lk l hl;unfold kZ at this;simp only[Xy]at this;exact⟨fR this.1,fR this.2.1⟩
theorem zb {α:Type}{enc:α→List D}(eE:∀x,(enc x).length=9)(p:α→Bool)(l:List α)(g:Nat)(caps:List D)(hl:l.length≤1000000000)(hc:∀x∈l,af prog g (.agg (enc x)::caps) (.v (.bool (p x)))):
 af prog 199 [.sl 9 (l.map enc),.clo g caps] (.v (.int .i64 (cz p l))):=by
 refine pj func199 ntmps199 results199 ?_;refine am ?_<;>intros;refine bL ae ak (fun m e h=>∃k:Nat,k≤l.length∧(∀x∈l.take k,p x=false)∧m=l.length - k∧e=[(8,.d (.v (.int .i64 k))),(7,.d (.v (.int .i64 l.length))),(4,.d (.v (.int .i64 0))),(1,.d (.clo g caps)),(0,.d (.sl 9 (l.map enc)))]∧h=[]) _ _ _ ⟨0,XE _,by simp,rfl,rfl,rfl⟩ ?_ ?_
 ·exact wf (x:=[]) (hh:=rfl) (he:=⟨rfl,rfl,rfl,rfl,rfl,trivial⟩)
 ·rintro m e h ⟨k,hk,cg,rfl,rfl,rfl⟩ CL mO;by_cases hlt:k < l.length
  ·obtain⟨x,hx⟩:∃x,l[k]? =some x:=⟨_,Xk hlt⟩;have ew:(k:Int) < (l.length:Int):=by omega
   have cR:=wi k (by omega);have bR:=eE x;have g7:(enc x).take 9=enc x:=XN (by omega);have jL:=hc x (Xl hx);cases hp:p x with
   |false=>
    rw[hp]at jL;refine am ?_<;>intros;refine mO _ _ _ _ _ ?_ ⟨k+1,hlt,?_,rfl,rfl,rfl⟩ (wf (x:=[]) (hh:=rfl) (he:=⟨rfl,rfl,rfl,rfl,rfl,trivial⟩))
    ·omega
    ·intro y hy;rw[ag hx]at hy;rcases X3.1 hy with hy|hy
     ·exact cg y hy
     ·rw[Yc]at hy;rw[hy];exact hp
   |true=>
    rw[hp]at jL;have ll:cz p l=k:=fY hx hp cg;exact bc;all_goals rw[ll]
    all_goals exact ai.refl _
  ·obtain rfl:k=l.length:=by omega
   rw[Xt]at cg;refine am ?_<;>intros;all_goals rw[fZ cg]
   all_goals exact ai.refl _
theorem Ig {α:Type}{enc:α→List D}(eE:∀x,(enc x).length=9)(p:α→Bool)(l:List α)(g:Nat)(caps:List D)(hl:l.length≤1000000000)(hc:∀x∈l,af prog g (.agg (enc x)::caps) (.v (.bool (p x)))):
 af prog 117 [.sl 9 (l.map enc),.clo g caps] (.v (.bool (l.any p))):=by
 have hi:=zb eE p l g caps hl hc;have iy:=fO p l;refine pj func117 ntmps117 results117 ?_;exact bc;all_goals exact ai.refl _
theorem m6 {α:Type}{enc:α→List D}(eE:∀x,(enc x).length=5)(p:α→Bool)(l:List α)(g:Nat)(caps:List D)(hl:l.length≤1000000000)(hc:∀x∈l,af prog g (.agg (enc x)::caps) (.v (.bool (p x)))):
 af prog 124 [.sl 5 (l.map enc),.clo g caps] (.v (.int .i64 (cz p l))):=by
 refine pj func124 ntmps124 results124 ?_;refine am ?_<;>intros;refine bL ae ak (fun m e h=>∃k:Nat,k≤l.length∧(∀x∈l.take k,p x=false)∧m=l.length - k∧e=[(8,.d (.v (.int .i64 k))),(7,.d (.v (.int .i64 l.length))),(4,.d (.v (.int .i64 0))),(1,.d (.clo g caps)),(0,.d (.sl 5 (l.map enc)))]∧h=[]) _ _ _ ⟨0,XE _,by simp,rfl,rfl,rfl⟩ ?_ ?_
 ·exact wf (x:=[]) (hh:=rfl) (he:=⟨rfl,rfl,rfl,rfl,rfl,trivial⟩)
 ·rintro m e h ⟨k,hk,cg,rfl,rfl,rfl⟩ CL mO;by_cases hlt:k < l.length
  ·obtain⟨x,hx⟩:∃x,l[k]? =some x:=⟨_,Xk hlt⟩;have ew:(k:Int) < (l.length:Int):=by omega
   have cR:=wi k (by omega);have bR:=eE x;have g7:(enc x).take 5=enc x:=XN (by omega);have jL:=hc x (Xl hx);cases hp:p x with
   |false=>
    rw[hp]at jL;refine am ?_<;>intros;refine mO _ _ _ _ _ ?_ ⟨k+1,hlt,?_,rfl,rfl,rfl⟩ (wf (x:=[]) (hh:=rfl) (he:=⟨rfl,rfl,rfl,rfl,rfl,trivial⟩))
    ·omega
    ·intro y hy;rw[ag hx]at hy;rcases X3.1 hy with hy|hy
     ·exact cg y hy
     ·rw[Yc]at hy;rw[hy];exact hp
   |true=>
    rw[hp]at jL;have ll:cz p l=k:=fY hx hp cg;exact bc;all_goals rw[ll]
    all_goals exact ai.refl _
  ·obtain rfl:k=l.length:=by omega
   rw[Xt]at cg;refine am ?_<;>intros;all_goals rw[fZ cg]
   all_goals exact ai.refl _
theorem qa {α:Type}{enc:α→List D}(eE:∀x,(enc x).length=5)(p:α→Bool)(l:List α)(g:Nat)(caps:List D)(hl:l.length≤1000000000)(hc:∀x∈l,af prog g (.agg (enc x)::caps) (.v (.bool (p x)))):
 af prog 92 [.sl 5 (l.map enc),.clo g caps] (.v (.bool (l.any p))):=by
 have hi:=m6 eE p l g caps hl hc;have iy:=fO p l;refine pj func92 ntmps92 results92 ?_;exact bc;all_goals exact ai.refl _
theorem KU (a b:Int):af prog 228 [.v (.int .i64 a),.v (.int .i64 b)] (.v (.bool (decide (a < b)))):=by
 cases h:decide (a < b)with
 |true=>
  refine pj func228 ntmps228 results228 ?_;have z1z:=kr a;have z2z:=kr b;exact bc;all_goals exact ai.refl _
 |false=>
  refine pj func228 ntmps228 results228 ?_;have z1z:=kr a;have z2z:=kr b;exact bc;all_goals exact ai.refl _
theorem sL {α:Type}{enc:α→List D}(eE:∀x,(enc x).length=9)(key:α→Int)(l:List α)(t:Int)(g:Nat)(caps:List D)(hl:l.length≤1000000000)(hs:l.Pairwise fun a b=>key a < key b)(hc:∀x∈l,af prog g (.agg (enc x):: .v (.int .i64 t)::caps) (.v (.int .i64 (ez (key x) t)))):
 af prog 197 [.sl 9 (l.map enc),.v (.int .i64 t),.clo g caps] (.tup [.v (.int .i64 (jg key t l)),.v (.bool (qU key t l))]):=by
 refine pj func197 ntmps197 results197 ?_;refine am ?_<;>intros;refine bL ae ak (fun m e h=>∃i j:Nat,i≤j∧j≤l.length∧(∀q (hq:q < l.length),q < i→key l[q] < t)∧(∀q (hq:q < l.length),j≤q→t≤key l[q])∧m=j - i∧
  e=[(10,.d (.v (.int .i64 j))),(9,.d (.v (.int .i64 i))),(8,.d (.v (.int .i64 l.length))),(7,.d (.v (.bool false))),(6,.d (.v (.int .i64 0))),(2,.d (.clo g caps)),(1,.d (.v (.int .i64 t))),(0,.d (.sl 9 (l.map enc)))]∧h=[]) _ _ _ ⟨0,l.length,XE _,XB _,fun q hq h=>absurd h (YJ _),fun q hq h=>by omega,rfl,rfl,rfl⟩ ?_ ?_
 ·exact wf (x:=[]) (hh:=rfl) (he:=⟨rfl,rfl,rfl,rfl,rfl,rfl,rfl,rfl,trivial⟩)
 ·rintro m e h ⟨i,j,hij,hj,jb,j7,rfl,rfl,rfl⟩ CL mO;by_cases hlt:i < j
  ·obtain⟨q,hq⟩:∃q,q=(i+j) / 2:=⟨_,rfl⟩;have s6:q < l.length:=by omega
   obtain⟨x,hx⟩:∃x,l[q]? =some x:=⟨_,Xk s6⟩;have nI:l[q]=x:=by rw[Xk s6]at hx;exact XX.inj hx
   have ew:(i:Int) < (j:Int):=by omega
   have cl:IntKind.i64.wrap ((i:Int)+(j:Int))=((i+j:Nat):Int):=by rw[IntKind.wrap_i64];omega
   have cD:IntKind.u64.wrap ((i+j:Nat):Int)=((i+j:Nat):Int):=by rw[vx];omega
   have Qh:(((i+j:Nat):Int)).fdiv (2 ^ min 1 64)=(q:Int):=by
    rw[hq,show (min 1 64:Nat)=1 from rfl,Int.pow_succ,Int.pow_zero,Int.one_mul,Z5 _ (by omega)];omega
   have lV:IntKind.i64.wrap (q:Int)=(q:Int):=by rw[IntKind.wrap_i64];omega
   have Be:=wi q (by omega);have bR:=eE x;have g7:(enc x).take 9=enc x:=XN (by omega);have jL:=hc x (Xl hx);have Jw:=qT (key x) t;have WE:i≤q∧q < j:=by omega
   replace hq:=Xj hq;by_cases hk:key x < t
   ·have dM:decide (key x < t)=true:=by simpa using hk
    refine am ?_<;>intros;refine mO _ _ _ _ _ ?_ ⟨q+1,j,by omega,hj,?_,j7,rfl,rfl,rfl⟩ (wf (x:=[]) (hh:=rfl) (he:=⟨rfl,rfl,rfl,rfl,rfl,rfl,rfl,rfl,trivial⟩))
    ·omega
    ·intro q' hq' Jj;rcases XP q' q with h1|h1
     ·have:=XF.1 hs q' q hq' s6 h1;rw[nI]at this;omega
     ·obtain rfl:q'=q:=by omega
      rw[nI];exact hk
   ·have dM:decide (key x < t)=false:=by simpa using hk
    refine am ?_<;>intros;refine mO _ _ _ _ _ ?_ ⟨i,q,by omega,by omega,jb,?_,rfl,rfl,rfl⟩ (wf (x:=[]) (hh:=rfl) (he:=⟨rfl,rfl,rfl,rfl,rfl,rfl,rfl,rfl,trivial⟩))
    ·omega
    ·intro q' hq' Jj;rcases XP q q' with h1|h1
     ·have:=XF.1 hs q q' s6 hq' h1;rw[nI]at this;omega
     ·obtain rfl:q'=q:=by omega
      rw[nI];omega
  ·obtain rfl:i=j:=by omega
   have jn:=pZ hj jb j7;have rU:qU key t l=match l[i]? with|some x=>key x==t|none=>false:=by unfold qU;rw[jn];all_goals(cases l[i]? <;>rfl)
   replace jn:=Xj jn;replace rU:=Xj rU;by_cases dE:i < l.length
   ·obtain⟨x,hx⟩:∃x,l[i]? =some x:=⟨_,Xk dE⟩;have MR:decide ((i:Int) < (l.length:Int))=true:=by simpa using dE
    have bR:=eE x;have g7:(enc x).take 9=enc x:=XN (by omega);have jL:=hc x (Xl hx);have WF:=sx (key x) t;refine am ?_<;>intros;all_goals rw[rU.out,hx,jn.out]
    all_goals exact ai.refl _
   ·have MR:decide ((i:Int) < (l.length:Int))=false:=by simpa using dE
    refine am ?_<;>intros;all_goals rw[rU.out,jn.out,XT (by omega)]
    all_goals exact ai.refl _
theorem EU {α:Type}{enc:α→List D}(eE:∀x,(enc x).length=5)(key:α→Int)(l:List α)(t:Int)(g:Nat)(caps:List D)(hl:l.length≤1000000000)(hs:l.Pairwise fun a b=>key a < key b)(hc:∀x∈l,af prog g (.agg (enc x):: .v (.int .i64 t)::caps) (.v (.int .i64 (ez (key x) t)))):
 af prog 202 [.sl 5 (l.map enc),.v (.int .i64 t),.clo g caps] (.tup [.v (.int .i64 (jg key t l)),.v (.bool (qU key t l))]):=by
 refine pj func202 ntmps202 results202 ?_;refine am ?_<;>intros;refine bL ae ak (fun m e h=>∃i j:Nat,i≤j∧j≤l.length∧(∀q (hq:q < l.length),q < i→key l[q] < t)∧(∀q (hq:q < l.length),j≤q→t≤key l[q])∧m=j - i∧
  e=[(10,.d (.v (.int .i64 j))),(9,.d (.v (.int .i64 i))),(8,.d (.v (.int .i64 l.length))),(7,.d (.v (.bool false))),(6,.d (.v (.int .i64 0))),(2,.d (.clo g caps)),(1,.d (.v (.int .i64 t))),(0,.d (.sl 5 (l.map enc)))]∧h=[]) _ _ _ ⟨0,l.length,XE _,XB _,fun q hq h=>absurd h (YJ _),fun q hq h=>by omega,rfl,rfl,rfl⟩ ?_ ?_
 ·exact wf (x:=[]) (hh:=rfl) (he:=⟨rfl,rfl,rfl,rfl,rfl,rfl,rfl,rfl,trivial⟩)
 ·rintro m e h ⟨i,j,hij,hj,jb,j7,rfl,rfl,rfl⟩ CL mO;by_cases hlt:i < j
  ·obtain⟨q,hq⟩:∃q,q=(i+j) / 2:=⟨_,rfl⟩;have s6:q < l.length:=by omega
   obtain⟨x,hx⟩:∃x,l[q]? =some x:=⟨_,Xk s6⟩;have nI:l[q]=x:=by rw[Xk s6]at hx;exact XX.inj hx
   have ew:(i:Int) < (j:Int):=by omega
   have cl:IntKind.i64.wrap ((i:Int)+(j:Int))=((i+j:Nat):Int):=by rw[IntKind.wrap_i64];omega
   have cD:IntKind.u64.wrap ((i+j:Nat):Int)=((i+j:Nat):Int):=by rw[vx];omega
   have Qh:(((i+j:Nat):Int)).fdiv (2 ^ min 1 64)=(q:Int):=by
    rw[hq,show (min 1 64:Nat)=1 from rfl,Int.pow_succ,Int.pow_zero,Int.one_mul,Z5 _ (by omega)];omega
   have lV:IntKind.i64.wrap (q:Int)=(q:Int):=by rw[IntKind.wrap_i64];omega
   have Be:=wi q (by omega);have bR:=eE x;have g7:(enc x).take 5=enc x:=XN (by omega);have jL:=hc x (Xl hx);have Jw:=qT (key x) t;have WE:i≤q∧q < j:=by omega
   replace hq:=Xj hq;by_cases hk:key x < t
   ·have dM:decide (key x < t)=true:=by simpa using hk
    refine am ?_<;>intros;refine mO _ _ _ _ _ ?_ ⟨q+1,j,by omega,hj,?_,j7,rfl,rfl,rfl⟩ (wf (x:=[]) (hh:=rfl) (he:=⟨rfl,rfl,rfl,rfl,rfl,rfl,rfl,rfl,trivial⟩))
    ·omega
    ·intro q' hq' Jj;rcases XP q' q with h1|h1
     ·have:=XF.1 hs q' q hq' s6 h1;rw[nI]at this;omega
     ·obtain rfl:q'=q:=by omega
      rw[nI];exact hk
   ·have dM:decide (key x < t)=false:=by simpa using hk
    refine am ?_<;>intros;refine mO _ _ _ _ _ ?_ ⟨i,q,by omega,by omega,jb,?_,rfl,rfl,rfl⟩ (wf (x:=[]) (hh:=rfl) (he:=⟨rfl,rfl,rfl,rfl,rfl,rfl,rfl,rfl,trivial⟩))
    ·omega
    ·intro q' hq' Jj;rcases XP q q' with h1|h1
     ·have:=XF.1 hs q q' s6 hq' h1;rw[nI]at this;omega
     ·obtain rfl:q'=q:=by omega
      rw[nI];omega
  ·obtain rfl:i=j:=by omega
   have jn:=pZ hj jb j7;have rU:qU key t l=match l[i]? with|some x=>key x==t|none=>false:=by unfold qU;rw[jn];all_goals(cases l[i]? <;>rfl)
   replace jn:=Xj jn;replace rU:=Xj rU;by_cases dE:i < l.length
   ·obtain⟨x,hx⟩:∃x,l[i]? =some x:=⟨_,Xk dE⟩;have MR:decide ((i:Int) < (l.length:Int))=true:=by simpa using dE
    have bR:=eE x;have g7:(enc x).take 5=enc x:=XN (by omega);have jL:=hc x (Xl hx);have WF:=sx (key x) t;refine am ?_<;>intros;all_goals rw[rU.out,hx,jn.out]
    all_goals exact ai.refl _
   ·have MR:decide ((i:Int) < (l.length:Int))=false:=by simpa using dE
    refine am ?_<;>intros;all_goals rw[rU.out,jn.out,XT (by omega)]
    all_goals exact ai.refl _
section
open Go.Proofs
section
variable {w:World}{b o:Nat}{c0 c1 c2 c3 c4 c5 c6 c7 c8:Value}
theorem ju (h:lA w b o [c0,c1]):w.cell? ⟨b,o,none⟩=some c0∧w.cell? ⟨b,o+1,none⟩=some c1:=⟨h 0 (by simp),h 1 (by simp)⟩
end
theorem eM {w w':World}{b o:Nat}{cs:List Value}(hx:dA w w')(h:lA w b o cs):lA w' b o cs:=fun j hj=>bV hx (h j hj)
theorem Sl.ext {α:Type}{A:lW}{w w':World}{k:Nat}{R:List Value→α→Prop}{ao:Option Addr}{cap:Nat}{l:List α}(h:Sl A w k R ao cap l)(hx:dA w w'):Sl A w' k R ao cap l:=by
 refine⟨h.cap_le,h.cap_max,fun i hi=>?_⟩;obtain⟨b,off,cs,h1,h2,h3,h4,h5⟩:=h.elem i hi;exact⟨b,off,cs,h1,h2,h3,h4,eM hx h5⟩
theorem Sl.nil {α:Type}{A:lW}{w:World}{k:Nat}{R:List Value→α→Prop}{ao:Option Addr}{cap:Nat}(h:cap≤9223372036854775807):Sl A w k R ao cap ([]:List α):=
 ⟨XE _,h,fun i hi=>by simp at hi⟩
theorem Sl.take {α:Type}{A:lW}{w:World}{k:Nat}{R:List Value→α→Prop}{ao:Option Addr}{cap:Nat}{l:List α}(h:Sl A w k R ao cap l)(n:Nat):Sl A w k R ao cap (l.take n):=by
 refine⟨Yz (List.length_take_le' n l) h.cap_le,h.cap_max,fun i hi=>?_⟩;have hi':i < l.length:=by rw[Xq]at hi;omega
 obtain⟨b,off,cs,h1,h2,h3,h4,h5⟩:=h.elem i hi';exact⟨b,off,cs,h1,h2,h3,by rw[ZA];exact h4,h5⟩
theorem Sl.mono {α:Type}{A:lW}{w:World}{k:Nat}{R R':List Value→α→Prop}{ao:Option Addr}{cap:Nat}{l:List α}(h:Sl A w k R ao cap l)(hR:∀cs x,x∈l→R cs x→R' cs x):Sl A w k R' ao cap l:=by
 refine⟨h.cap_le,h.cap_max,fun i hi=>?_⟩;obtain⟨b,off,cs,h1,h2,h3,h4,h5⟩:=h.elem i hi;exact⟨b,off,cs,h1,h2,h3,hR _ _ (Ym hi) h4,h5⟩
def nz {α:Type}(p:α→Bool)(l:List α):Int:=match l.findIdx? p with|some i=>(i:Int)|none=> -1
theorem Gw {α:Type}{p:α→Bool}{l:List α}{k:Nat}(hk:k < l.length)(hp:p l[k]=true)(hn:∀j (h:j < k),p (l[j]'(by omega))=false):nz p l=k:=by
 have:l.findIdx? p=some k:=by
  rw[XI];exact⟨hk,hp,fun j hj=>by simp[hn j hj]⟩
 unfold nz;rw[this]
theorem CH {α:Type}{p:α→Bool}{l:List α}(hn:∀j (h:j < l.length),p l[j]=false):nz p l= -1:=by
 have:l.findIdx? p=none:=by
  rw[Yn];intro x hx;obtain⟨j,hj,rfl⟩:=X0.1 hx;exact hn j hj
 unfold nz;rw[this]
theorem Gx {α:Type}(p:α→Bool)(l:List α):decide (nz p l≥0)=l.any p:=by
 unfold nz;cases h:l.findIdx? p with
 |none=>
  rw[Yn]at h;have:l.any p=false:=by rw[Yh];intro x hx;simp[h x hx]
  rw[this];rfl
 |some i=>
  rw[XI]at h;obtain⟨hi,hp,_⟩:=h;have:l.any p=true:=by rw[XU];exact⟨l[i],Ym hi,hp⟩
  rw[this];simp
def KV {α:Type}(P:Program)(g:Nat)(lb:Array Value)(R:List Value→α→Prop)(p:α→Bool)(l:List α)(w:World):Prop:=
 ∀W,dA w W→∀x∈l,∀cs,R cs x→Calls P g (#[.agg cs.toArray]++lb) W fun e w'=>e= .returned (.bool (p x))∧dA W w'
end
section
open Go.Proofs
theorem CJ {α:Type}{A:lW}{R:List Value→α→Prop}(g:Nat)(lb:Array Value)(eg:∀args w,(callFunc g args).run prog w= .ok (.enter g args) w)(p:α→Bool)(l:List α)(ao:Option Addr)(cap:Nat)(w:World)(h:Sl A w 2 R ao cap l)(hp:KV prog g lb R p l w):
 Calls prog 179 #[.slice ao l.length cap,.func (.func g) #[] lb] w fun e w'=>e= .returned (.int .i64 (nz p l))∧dA w w':=by
 have fV:=h.cap_le;have Jw:=h.cap_max;obtain⟨r,hr⟩:∃r,r=nz p l:=⟨_,rfl⟩;rw[←hr];replace hr:=Xj hr;replace hp:=Xj hp;go_enter func179,ntmps179
 go_wp2_with fail
 go_loopw [5,8] (fun _ s8 wr=>∃k:Nat,k≤l.length∧s8= .int .i64 k∧Hid (∀j (h:j < k) (h':j < l.length),p l[j]=false)∧dA w wr) (fun _ s8 _=>l.length - (intOf s8).toNat)
 case atStart=>exact⟨0,XE _,rfl,Xj (fun j hj=>absurd hj (YJ _)),Below.refl _ w⟩
 case round=>
  obtain⟨k,hk,rfl,bP,hx⟩:=hrel;by_cases hlt:k < l.length
  ·have ew:(k:Int) < (l.length:Int):=by omega
   obtain⟨b,off,cs,rfl,-,bR,hR,fq⟩:=h.elem k hlt;have i8:=hp.out wr hx l[k] (Ym hlt) cs hR;replace fq:=eM hx fq;obtain⟨q,hq⟩:∃q,q=p l[k]:=⟨_,rfl⟩;rw[←hq]at i8;replace hq:=Xj hq;clear h hR;match cs,bR with
   |[v0,v1],_=>
    obtain⟨k0,k1⟩:=ju fq;clear fq;replace i8:=Xj i8;cases q
    case true=>
     go_wp2_with fail
     refine i8.out.mono ?_;rintro e w1 ⟨rfl,nr⟩;go_wp2_with fail
     go_ret
     exact⟨cf (by rw[hr.out];exact(Gw hlt hq.out.symm fun j hj=>bP.out j hj (by omega)).symm),aj hx nr⟩
    case false=>
     go_wp2_with fail
     refine i8.out.mono ?_;rintro e w1 ⟨rfl,nr⟩;go_wp2_with fail
     go_roundw
     case rel=>exact⟨k+1,by omega,by go_num,Xj (fun j hj hj'=>by
      rcases G' (Q' hj)with h1|h1
      ·exact bP.out j h1 hj'
      ·subst h1;exact hq.out.symm),aj hx nr⟩
     case measure=>simp[intOf];omega
  ·have ew:¬(k:Int) < (l.length:Int):=by omega
   obtain rfl:k=l.length:=by omega
   go_wp2_with fail
   go_ret
   exact⟨cf (by rw[hr.out];exact(CH fun j hj=>bP.out j hj hj).symm),hx⟩
theorem vP {α:Type}{A:lW}{R:List Value→α→Prop}(g:Nat)(lb:Array Value)(eg:∀args w,(callFunc g args).run prog w= .ok (.enter g args) w)(p:α→Bool)(l:List α)(ao:Option Addr)(cap:Nat)(w:World)(h:Sl A w 2 R ao cap l)(hp:KV prog g lb R p l w):
 Calls prog 95 #[.slice ao l.length cap,.func (.func g) #[] lb] w fun e w'=>e= .returned (.bool (l.any p))∧dA w w':=by
 have hc:=CJ g lb eg p l ao cap w h hp;have ha:=Gx p l;obtain⟨r,hr⟩:∃r,r=nz p l:=⟨_,rfl⟩;rw[←hr]at hc ha;rw[←ha];clear hr ha h hp;replace hc:=Xj hc;go_enter func95,ntmps95
 go_wp2_with fail
 refine hc.out.mono ?_;rintro e w1 ⟨rfl,nr⟩;go_wp2_with fail
 go_ret
 exact⟨rfl,nr⟩
end
section
open Go.Proofs
theorem Oo {A:lW}(v:Pfx)(l:List Pfx)(ao:Option Addr)(cap:Nat)(w:World)(h:Sl A w 2 cQ ao cap l):
 Calls prog 334 #[.slice ao l.length cap,.agg #[.int .i64 v.at_,.int .i64 v.len]] w fun e w'=>e= .returned (.int .i64 (nz (fun x=>decide (v=x)) l))∧dA w w':=by
 have fV:=h.cap_le;have Jw:=h.cap_max;obtain⟨r,hr⟩:∃r,r=nz (fun x=>decide (v=x)) l:=⟨_,rfl⟩;rw[←hr];replace hr:=Xj hr;go_enter func334,ntmps334
 go_wp2_with fail
 go_loopw [5,8] (fun _ s8 wr=>∃k:Nat,k≤l.length∧s8= .int .i64 k∧Hid (∀j (h:j < k) (h':j < l.length),decide (v=l[j])=false)∧dA (w.alloc (.cells #[.int .i64 v.at_,.int .i64 v.len] 32)) wr) (fun _ s8 _=>l.length - (intOf s8).toNat)
 case atStart=>exact⟨0,XE _,rfl,Xj (fun j hj=>absurd hj (YJ _)),Below.refl _ _⟩
 case round=>
  obtain⟨k,hk,rfl,bP,hx⟩:=hrel;by_cases hlt:k < l.length
  ·have ew:(k:Int) < (l.length:Int):=by omega
   obtain⟨b,off,cs,rfl,-,bR,hR,fq⟩:=h.elem k hlt;replace fq:=eM hx (eM (aw _ _) fq);unfold cQ at hR;subst hR;obtain⟨k0,k1⟩:=ju fq;have p0:wr.cell? ⟨w.heap.size,0,none⟩=some (.int .i64 v.at_):=bV hx (by simp);have p1:wr.cell? ⟨w.heap.size,1,none⟩=some (.int .i64 v.len):=bV hx (by simp);have lb:=dF k0;have lp:=dF p0;obtain⟨y,hy⟩:∃y,y=l[k]:=⟨_,rfl⟩;rw[←hy]at k0 k1;replace hy:=Xj hy;clear fq h;by_cases e0:v.at_=y.at_
   ·by_cases e1:v.len=y.len
    ·have he:decide (v=y)=true:=by simp;cases v;cases y;simp_all
     replace he:=Xj he;go_wp2_with fail
     refine b8 (by kernel_rfl) (by kernel_rfl) (fun _ _ d _ _ h=>by cases d<;>exact h) ?_;repeat(first|((first|refine bs rfl rfl rfl (by with_reducible rfl) ?_|refine bt rfl rfl rfl (by with_reducible rfl) ?_|refine bu rfl rfl rfl (by with_reducible rfl) ?_);simp only[Act.put,Xp,Xu,Xx])|(apply ci;(first|exact bx rfl|exact bD rfl rfl rfl (by with_reducible rfl));intro wq cO R hR;((have ei:=(aJ cO).1;(try simp only[Xr,aa,Xw,Xs]at ei));go_simp;first|exact hR|(fail));simp only[Act.put,Xp,Xu,Xx]))
     refine dL ?_;intro w2 cD;obtain⟨dQ,dD⟩:=aJ cD;have dR:=br cD;(try simp only[Xr,aa,Xw,Xs]at dQ dD dR)
     go_wp2_with fail
     go_ret
     exact⟨cf (by rw[hr.out];exact(Gw hlt (by rw[←hy.out];exact he.out) fun j hj=>bP.out j hj (by omega)).symm),aj (aw _ _) (aj hx cD)⟩
    ·have he:decide (v=y)=false:=by simp;intro h;exact e1 (by rw[h])
     replace he:=Xj he;go_wp2_with fail
     refine b8 (by kernel_rfl) (by kernel_rfl) (fun _ _ d _ _ h=>by cases d<;>exact h) ?_;repeat(first|((first|refine bs rfl rfl rfl (by with_reducible rfl) ?_|refine bt rfl rfl rfl (by with_reducible rfl) ?_|refine bu rfl rfl rfl (by with_reducible rfl) ?_);simp only[Act.put,Xp,Xu,Xx])|(apply ci;(first|exact bx rfl|exact bD rfl rfl rfl (by with_reducible rfl));intro wq cO R hR;((have ei:=(aJ cO).1;(try simp only[Xr,aa,Xw,Xs]at ei));go_simp;first|exact hR|(fail));simp only[Act.put,Xp,Xu,Xx]))
     refine dL ?_;intro w2 cD;obtain⟨dQ,dD⟩:=aJ cD;have dR:=br cD;(try simp only[Xr,aa,Xw,Xs]at dQ dD dR)
     go_wp2_with fail
     go_roundw
     case rel=>exact⟨k+1,by omega,by go_num,Xj (fun j hj hj'=>by
      rcases G' (Q' hj)with h1|h1
      ·exact bP.out j h1 hj'
      ·subst h1;rw[←hy.out];exact he.out),aj hx cD⟩
     case measure=>simp[intOf];omega
   ·have he:decide (v=y)=false:=by simp;intro h;exact e0 (by rw[h])
    replace he:=Xj he;go_wp2_with fail
    refine b8 (by kernel_rfl) (by kernel_rfl) (fun _ _ d _ _ h=>by cases d<;>exact h) ?_;repeat(first|((first|refine bs rfl rfl rfl (by with_reducible rfl) ?_|refine bt rfl rfl rfl (by with_reducible rfl) ?_|refine bu rfl rfl rfl (by with_reducible rfl) ?_);simp only[Act.put,Xp,Xu,Xx])|(apply ci;(first|exact bx rfl|exact bD rfl rfl rfl (by with_reducible rfl));intro wq cO R hR;((have ei:=(aJ cO).1;(try simp only[Xr,aa,Xw,Xs]at ei));go_simp;first|exact hR|(fail));simp only[Act.put,Xp,Xu,Xx]))
    refine dL ?_;intro w2 cD;obtain⟨dQ,dD⟩:=aJ cD;have dR:=br cD;(try simp only[Xr,aa,Xw,Xs]at dQ dD dR)
    go_wp2_with fail
    go_roundw
    case rel=>exact⟨k+1,by omega,by go_num,Xj (fun j hj hj'=>by
     rcases G' (Q' hj)with h1|h1
     ·exact bP.out j h1 hj'
     ·subst h1;rw[←hy.out];exact he.out),aj hx cD⟩
    case measure=>simp[intOf];omega
  ·have ew:¬(k:Int) < (l.length:Int):=by omega
   obtain rfl:k=l.length:=by omega
   go_wp2_with fail
   go_ret
   exact⟨cf (by rw[hr.out];exact(CH fun j hj=>bP.out j hj hj).symm),aj (aw _ _) hx⟩
theorem EV {A:lW}(v:Pfx)(l:List Pfx)(ao:Option Addr)(cap:Nat)(w:World)(h:Sl A w 2 cQ ao cap l):
 Calls prog 323 #[.slice ao l.length cap,.agg #[.int .i64 v.at_,.int .i64 v.len]] w fun e w'=>e= .returned (.bool (l.contains v))∧dA w w':=by
 have hc:=fun W (h:Sl A W 2 cQ ao cap l)=>Oo v l ao cap W h;have ha:=Gx (fun x=>decide (v=x)) l;have hb:l.contains v=l.any (fun x=>decide (v=x)):=by
  rw[Yi];simp
 rw[←hb]at ha;obtain⟨r,hr⟩:∃r,r=nz (fun x=>decide (v=x)) l:=⟨_,rfl⟩;rw[←hr]at ha;simp only[←hr]at hc;rw[←ha];clear hr ha hb;replace hc:=Xj hc;go_enter func323,ntmps323
 go_wp2_with fail
 refine(hc.out _ (h.ext (aw _ _))).mono ?_;rintro e w1 ⟨rfl,nr⟩;go_wp2_with fail
 go_ret
 exact⟨rfl,aj (aw _ _) nr⟩
end
structure EX (lo hi:Nat)(w w':World):Prop where
 os:w'.os=w.os
 tape:w'.tape=w.tape
 output:w'.output=w.output
 size:w.heap.size≤w'.heap.size
 block:∀b,b < w.heap.size→(b < lo∨hi≤b)→w'.heap[b]? =w.heap[b]?
 there:∀b o,b < w.heap.size→(w.cell? ⟨b,o,none⟩).isSome=true→(w'.cell? ⟨b,o,none⟩).isSome=true
 free:∀b o,b < w.heap.size→w'.frozen? ⟨b,o,none⟩=w.frozen? ⟨b,o,none⟩
theorem EX.refl {lo hi:Nat}(w:World):EX lo hi w w:=⟨rfl,rfl,rfl,XB _,fun _ _ _=>rfl,fun _ _ _ h=>h,fun _ _ _=>rfl⟩
theorem EX.trans {lo hi:Nat}{a b c:World}(h:EX lo hi a b)(k:EX lo hi b c):EX lo hi a c:=
 ⟨k.os.trans h.os,k.tape.trans h.tape,k.output.trans h.output,Yz h.size k.size,fun i hi hx=>(k.block i (Yy hi h.size) hx).trans (h.block i hi hx),
  fun i o hi hs=>k.there i o (Yy hi h.size) (h.there i o hi hs),fun i o hi=>(k.free i o (Yy hi h.size)).trans (h.free i o hi)⟩
theorem EX.of {lo hi:Nat}{w w':World}(h:dA w w'):EX lo hi w w':=
 ⟨h.os,h.tape,h.output,h.size,fun b hb _=>h.block b hb,fun b o hb hs=>by rw[(aJ h).1 b o hb];exact hs,fun b o hb=>(aJ h).2 b o hb⟩
theorem EX.mono {lo hi lo' hi':Nat}{w w':World}(h1:lo≤lo')(h2:hi'≤hi)(h:EX lo' hi' w w'):EX lo hi w w':=
 ⟨h.os,h.tape,h.output,h.size,fun b hb hx=>h.block b hb (by omega),h.there,h.free⟩
theorem EX.cell {lo hi:Nat}{w w':World}(h:EX lo hi w w'){b o:Nat}(hb:b < w.heap.size)(hx:b < lo∨hi≤b):w'.cell? ⟨b,o,none⟩=w.cell? ⟨b,o,none⟩:=
 Zl (w:=w) (h.block b hb hx)
theorem EX.setCell {lo hi:Nat}{w w':World}(h:EX lo hi w w'){b o:Nat}(h1:lo≤b)(h2:b < hi)(v:Value):EX lo hi w (w'.setCell ⟨b,o,none⟩ v):=by
 refine⟨h.os,h.tape,h.output,by rw[aa];exact h.size,fun i hi hx=>(lX v (by show b≠i;omega)).trans (h.block i hi hx),fun i j hi hs=>?_,fun i j hi=>?_⟩
 ·have h3:=h.there i j hi hs;obtain⟨u,hu⟩:=Zf.1 h3;obtain⟨u',hu'⟩:=cell?_setCell_some (w:=w') (p:=⟨b,o,none⟩) (x:=v) (q:=⟨i,j,none⟩) (v:=u) hu;rw[hu'];rfl
 ·rw[World.frozen?_setCell];exact h.free i j hi
theorem EX.drew {lo hi:Nat}{w w':World}(h:EX lo hi w w'):EX lo hi w w'.drew:=h.trans (EX.of ((Below.refl _ _).drew))
theorem EX.bel {lo hi B:Nat}{a w w':World}(h:Bel B a w)(hx:EX lo hi w w')(hB:B≤lo):Bel B a w':=
 ⟨h.bel.trans ⟨hx.os,hx.tape,hx.output,hx.size,fun k hk=>hx.block k (Yy hk h.le) (.inl (Yy hk hB))⟩,Yz h.le hx.size⟩
theorem EX.some {lo hi:Nat}{w w':World}(h:EX lo hi w w'){b o:Nat}{v:Value}(hc:w.cell? ⟨b,o,none⟩=some v):∃u,w'.cell? ⟨b,o,none⟩=some u:=by
 have:=h.there b o (dF hc) (by rw[hc];rfl);exact Zf.1 this
theorem DO {lo hi:Nat}{w w':World}(h:EX lo hi w w')(hl:lo≤w.heap.size):∀b o,b < lo→w'.cell? ⟨b,o,none⟩=w.cell? ⟨b,o,none⟩:=fun b o hb=>h.cell (by omega) (.inl hb)
theorem EX.hi {lo hi:Nat}{w w':World}(h:EX lo hi w w'):∀b o,hi≤b→b < w.heap.size→w'.cell? ⟨b,o,none⟩=w.cell? ⟨b,o,none⟩:=fun b o hb h2=>h.cell h2 (.inr hb)
section
variable {P:Program}{ops:Array Oper}{Q:Exit→Act→World→Prop}
def GX (P:Program)(ops:Array Oper)(Q:Exit→Act→World→Prop):Nat→Array Bool→Act→Nat→Nat→World→Prop
 |0,listed,a,lo,hi,W=>Region.ready .any ops listed=[]∧∀w,EX lo hi W w→Q .normal a w
 |fuel+1,listed,a,lo,hi,W=>∀w,EX lo hi W w→(Region.ready .any ops listed=[]→Q .normal a w)∧
  ∀i∈Region.ready .any ops listed,wpOp P ops Q i (fun a' w'=>EX lo hi w w'∧∃lo' hi',lo≤lo'∧hi'≤hi∧GX P ops Q fuel (listed.setIfInBounds i true) a' lo' hi' w') a w
theorem GX.world:∀{fuel:Nat}{listed:Array Bool}{a:Act}{lo hi:Nat}{W W':World},EX lo hi W W'→GX P ops Q fuel listed a lo hi W→GX P ops Q fuel listed a lo hi W'
 |0,_,_,_,_,_,_,hx,h=>⟨h.1,fun w hw=>h.2 w (hx.trans hw)⟩
 |_+1,_,_,_,_,_,_,hx,h=>fun w hw=>h w (hx.trans hw)
theorem GX.any:∀{fuel:Nat}{listed:Array Bool}{a:Act}{lo hi:Nat}{W:World},GX P ops Q fuel listed a lo hi W→wpAny P .any ops Q fuel listed a W
 |0,_,_,_,_,_,h=>⟨h.1,h.2 _ (EX.refl _)⟩
 |_+1,_,_,_,_,W,h=>⟨(h W (EX.refl _)).1,fun i hi=>wpOp_mono (fun _ _ ⟨_,_,_,_,_,h'⟩=>GX.any h') ((h W (EX.refl _)).2 i hi)⟩
def QX (P:Program)(ops:Array Oper)(lo hi:Nat)(W:World)(o:Oper)(v:Value)(a:Act):Prop:=
 (Region.wanted o (yielded ops a.tmps)=true∧∀w,EX lo hi W w→o.quietAt P a (dA w) w v)∨
 (Region.wanted o (yielded ops a.tmps)=false∧v=undef)
theorem QX.world {lo hi lo' hi':Nat}{W W':World}{o:Oper}{v:Value}{a:Act}(h1:lo≤lo')(h2:hi'≤hi)(hx:EX lo hi W W')(h:QX P ops lo hi W o v a):QX P ops lo' hi' W' o v a:=
 h.imp (fun⟨g1,g2⟩=>⟨g1,fun w hw=>g2 w (hx.trans (hw.mono h1 h2))⟩) id
theorem QX.of_same {lo hi:Nat}{W:World}{o:Oper}{v:Value}{a a':Act}(hy:QX P ops lo hi W o v a)(he:execOp a'.eval o=execOp a.eval o)
 (hw:Region.wanted o (yielded ops a'.tmps)=Region.wanted o (yielded ops a.tmps)):QX P ops lo hi W o v a':=by
 unfold QX Oper.quietAt at*;rw[he,hw];exact hy
theorem QX.wpOp {lo hi:Nat}{W:World}{i:Nat}{o:Oper}{v:Value}{a:Act}(hi':ops[i]? =some o)(hy:QX P ops lo hi W o v a){K:Act→World→Prop}{w:World}(hw:EX lo hi W w)(h:∀w',dA w w'→K (a.put o.dst v) w'):wpOp P ops Q i K a w:=by
 unfold Go.wpOp;simp only[hi'];rcases hy with⟨A7,hv⟩|⟨A7,rfl⟩
 ·simp only[A7,if_true];left;have h3:=hv w hw;unfold Oper.quietAt at h3;unfold Oper.wp;generalize (execOp a.eval o).run P w=r at*;cases r with
  |ok n w'=>
   cases n<;>simp only[Oper.quietUpon]at h3<;>simp only[Oper.upon]
   case value u=>
    obtain⟨e1,e2⟩:=h3;rw[e1,e2];exact h _ (Below.refl _ _)
   case skip=>
    obtain⟨e1,e2⟩:=h3;rw[e1,←e2];exact h _ (Below.refl _ _)
   case enter f args=>
    obtain⟨e1,hc⟩:=h3;rw[e1];exact hc.mono fun e w'' ⟨he,hw''⟩=>by subst he;exact h _ hw''
  |halt x w'=>simp only[Oper.quietUpon]at h3
 ·simp only[A7,YB,if_false];exact h w (Below.refl _ _)
theorem Ih {lo hi:Nat}{W:World}{j:Nat}{oi oj:Oper}{v:Value}(hj:ops[j]? =some oj)(Hc:oi.apart ops oj=true)
 (Ei:∀cs b,oi.op≠ .select cs b) (Qf:∀cs b,oj.op≠ .select cs b)
 (hQ:∀c a w,Q (.panic c) (a.put oi.dst v) w→Q (.panic c) a w) {K:Act→World→Prop}{a:Act}{w:World}
 (hy:QX P ops lo hi W oi v a) (h:wpOp P ops Q j K (a.put oi.dst v) w):
 wpOp P ops Q j (fun a' w'=>QX P ops lo hi W oi v a'∧K (a'.put oi.dst v) w') a w:=by
 obtain⟨h1,h2,h3⟩:=Oper.apart_spec Hc;have keep:∀(a:Act),QX P ops lo hi W oi v a→∀u,QX P ops lo hi W oi v (a.put oj.dst u):=fun a hy u=>
  hy.of_same (execOp_put oi Ei a oj.dst u h3) (wanted_put oi a oj.dst u h3)
 have keepD:∀d,QX P ops lo hi W oi v {a with defers:=d::a.defers}:=fun d=>hy.of_same rfl rfl;unfold wpOp at*;simp only[hj]at*;rw[wanted_put oj a oi.dst v h1]at h;split
 ·rename_i hw;simp only[hw,if_true]at h;rcases h with h|⟨t7,DX⟩
  case inr=>exact .inr ⟨by unfold Oper.asks at*;rw[execOp_put oj Qf a oi.dst v h1]at t7;exact t7,DX⟩
  refine .inl ?_;unfold Oper.wp at*;rw[execOp_put oj Qf a oi.dst v h1]at h;generalize (execOp a.eval oj).run P w=r at*;cases r with
  |ok n w'=>
   cases n<;>simp only[Oper.upon]at h ⊢
   case value u=>exact⟨keep a hy u,by rw[←Act.put_comm a v u h2];exact h⟩
   case skip=>exact⟨keep a hy _,by rw[←Act.put_comm a v undef h2];exact h⟩
   case defer d=>
    refine⟨keep _ (keepD d) _,?_⟩;rw[←Act.put_comm _ v undef h2,←Act.put_defers];exact h
   case enter f args=>
    refine Calls.mono h fun e w'' he=>?_;cases e with
    |returned u=>exact⟨keep a hy u,by rw[←Act.put_comm a v u h2];exact he⟩
    |panicked c=>exact hQ _ _ _ he
    |outgrown=>exact he
   case row row args=>exact Rows.mono h fun u w'' he=>⟨keep a hy u,by rw[←Act.put_comm a v u h2];exact he⟩
  |halt x w'=>
   cases x<;>simp only[Oper.upon]at h ⊢
   case panic u=>exact hQ _ _ _ h
 ·rename_i hw;simp only[hw]at h;exact⟨keep a hy _,by rw[←Act.put_comm a v undef h2];exact h⟩
theorem KW {i:Nat}{oi:Oper}{v:Value}(D3:ops[i]? =some oi)(DY:∀(j:Nat) (o:Oper) cs b,ops[j]? =some o→o.op≠ .select cs b)
 (hQ:∀c a w,Q (.panic c) (a.put oi.dst v) w→Q (.panic c) a w):
 ∀(fuel:Nat) (listed:Array Bool) (a:Act) (lo hi:Nat) (W:World),
  (∀j oj,ops[j]? =some oj→j≠i→listed.getD j true=false→(∀e∈oj.after,Region.binds .any e=true→e.on≠i)→oi.apart ops oj=true)→
  i∈Region.ready .any ops listed→QX P ops lo hi W oi v a→
  GX P ops Q fuel (listed.setIfInBounds i true) (a.put oi.dst v) lo hi W→GX P ops Q (fuel+1) listed a lo hi W:=by
 intro fuel;induction fuel with
 |zero=>
  intro listed a lo hi W _ hr hy H w hw;refine⟨fun h=>(by rw[h]at hr;cases hr),fun j hj=>?_⟩;by_cases j6:j=i
  ·subst j6;exact hy.wpOp D3 hw fun w' hw'=>⟨EX.of hw',lo,hi,XB _,XB _,H.world (hw.trans (EX.of hw'))⟩
  ·have:=ready_mono hj j6;rw[H.1]at this;cases this
 |succ fuel ih=>
  intro listed a lo hi W t8 hr hy H w hw;refine⟨fun h=>(by rw[h]at hr;cases hr),fun j hj=>?_⟩;by_cases j6:j=i
  ·subst j6;exact hy.wpOp D3 hw fun w' hw'=>⟨EX.of hw',lo,hi,XB _,XB _,H.world (hw.trans (EX.of hw'))⟩
  ·have h1:=(H w hw).2 j (ready_mono hj j6);obtain⟨DZ,oj,MM,bP⟩:=mem_ready.1 hj;have MN:∀e∈oj.after,Region.binds .any e=true→e.on≠i:=fun e he hb heq=>by
    have h1:=bP e he hb;have h0:=(mem_ready.1 hr).1;rw[heq]at h1;rcases XP i listed.size with h'|h'
    ·simp[h']at h0 h1;rw[h0]at h1;cases h1
    ·simp[YM h']at h1
   have h2:=Ih MM (t8 j oj MM j6 DZ MN) (fun cs b=>DY i oi cs b D3) (fun cs b=>DY j oj cs b MM) hQ (hy.world (XB _) (XB _) hw) h1;have xa:∀k ok,ops[k]? =some ok→k≠i→(listed.setIfInBounds j true).getD k true=false→
    (∀e∈ok.after,Region.binds .any e=true→e.on≠i)→oi.apart ops ok=true:=fun k ok hk MO Qg cg=>by
    refine t8 k ok hk MO ?_ cg;by_cases A8:j=k
    ·subst A8;exact DZ
    ·rw[getD_set_ne true A8]at Qg;exact Qg
   refine wpOp_mono (fun a' w' ⟨h3,h4,lo',hi',h5,h6,h7⟩=>⟨h4,lo',hi',h5,h6,ih (listed.setIfInBounds j true) a' lo' hi' w' xa (ready_mono hr (Ne.symm j6)) (h3.world h5 h6 h4) ?_⟩) h2;rw[Array.setIfInBounds_comm _ _ j6];exact h7
def jU (P:Program)(ops:Array Oper)(Q:Exit→Act→World→Prop):List Oper→Nat→Array Bool→Act→Nat→Nat→World→Prop
 |[],_,_,a,lo,hi,W=>∀w,EX lo hi W w→Q .normal a w
 |o::rest,k,listed,a,lo,hi,W=>
  (∃v,QX P ops lo hi W o v a∧jU P ops Q rest (k+1) (listed.setIfInBounds k true) (a.put o.dst v) lo hi W)∨
  (Region.ready .any ops listed=[k]∧Region.wanted o (yielded ops a.tmps)=true∧∀w,EX lo hi W w→o.wp P a w (fun a' w'=>EX lo hi w w'∧∃lo' hi',lo≤lo'∧hi'≤hi∧jU P ops Q rest (k+1) (listed.setIfInBounds k true) a' lo' hi' w') Q)
theorem sM (hs:Region.noSelect ops=true)(hQ:∀c a d v w,Q (.panic c) (a.put d v) w→Q (.panic c) a w):∀(l:List Oper) (k:Nat) (listed:Array Bool) (a:Act) (lo hi:Nat) (W:World),(∀j,l[j]? =ops[k+j]?)→
 Region.lexFrom .any ops l.length k listed=true→jU P ops Q l k listed a lo hi W→GX P ops Q l.length listed a lo hi W
 |[],_,_,_,_,_,_,_,hB,h=>⟨by simpa[Region.lexFrom]using hB,h⟩
 |o::l,k,listed,a,lo,hi,W,hl,hB,h=>by
  have h0:ops[k]? =some o:=by simpa using (hl 0).symm
  simp only[XA,Region.lexFrom,Xy]at hB;obtain⟨⟨hr,hf⟩,hB'⟩:=hB;have hl':∀j,l[j]? =ops[k+1+j]? :=fun j=>by have:=hl (j+1);simpa[ZF,Nat.add_comm 1 j]using this
  rcases h with⟨v,hy,hK⟩|⟨eS,A7,hK⟩
  ·exact KW h0 (Region.noSelect_spec hs) (fun c a w=>hQ c a _ _ w) l.length listed a lo hi W (Region.free_spec h0 hf) (by simpa using hr) hy (sM hs hQ l (k+1) _ _ _ _ _ hl' hB' hK)
  ·intro w hw;refine⟨fun h=>by rw[eS]at h;simp at h,fun i hi'=>?_⟩;rw[eS]at hi';obtain rfl:i=k:=by simpa using hi'
   unfold wpOp;simp only[h0,A7,if_true];left;exact Oper.wp_mono (fun a' w' ⟨h1,lo',hi',h2,h3,h4⟩=>⟨h1,lo',hi',h2,h3,sM hs hQ l (i+1) _ _ _ _ _ hl' hB' h4⟩) (hK w hw)
theorem EW {id:Nat}{a:Act}{w:World}{l:List Oper}(lo hi:Nat)(hm:P.follows .mixedOrders=true)(hB:Region.lexB .any l.toArray=true)(hQ:∀c a d v w,Q (.panic c) (a.put d v) w→Q (.panic c) a w)
 (h:jU P l.toArray Q l 0 (Y5 l.length false) a lo hi w):(Code.region id l.toArray true).wp P Q a w:=by
 simp only[Region.lexB,Xy]at hB;refine wp_region_any hm ?_;have h2:=sM hB.1 hQ l 0 (Y5 l.length false) a lo hi w (by simp) (by simpa using hB.2) h;have h3:=(h2.world (EX.of ((Below.refl _ _).drew:dA w w.drew))).any;simpa using h3
section
variable {o:Oper}{rest:List Oper}{k lo hi:Nat}{listed:Array Bool}{a:Act}{W:World}
theorem Oq (h:∀w,EX lo hi W w→Q .normal a w):jU P ops Q [] k listed a lo hi W:=h
theorem vQ (hw:Region.wanted o (yielded ops a.tmps)=false)(hn:jU P ops Q rest (k+1) (listed.setIfInBounds k true) (a.put o.dst undef) lo hi W):jU P ops Q (o::rest) k listed a lo hi W:=
 .inl ⟨undef,.inr ⟨hw,rfl⟩,hn⟩
theorem vR {j d:Nat}{v:Value}(hg:o.guard=some (j,true))(hd:(ops[j]?).bind (·.dst)=some d)(hv:a.tmps.toList[d]? =some v)(hb:v= .bool false)(hn:jU P ops Q rest (k+1) (listed.setIfInBounds k true) (a.put o.dst undef) lo hi W):jU P ops Q (o::rest) k listed a lo hi W:=
 vQ (by simp[Region.wanted,hg,gx hd hv hb]) hn
theorem vS {j d:Nat}{v:Value}(hg:o.guard=some (j,false))(hd:(ops[j]?).bind (·.dst)=some d)(hv:a.tmps.toList[d]? =some v)(hb:v= .bool true)(hn:jU P ops Q rest (k+1) (listed.setIfInBounds k true) (a.put o.dst undef) lo hi W):jU P ops Q (o::rest) k listed a lo hi W:=
 vQ (by simp[Region.wanted,hg,gx hd hv hb]) hn
theorem vT {j d:Nat}{v:Value}{b:Bool}(hg:o.guard=some (j,b))(hd:(ops[j]?).bind (·.dst)=some d)(hv:a.tmps.toList[d]? =some v)(hb:v=undef)(hn:jU P ops Q rest (k+1) (listed.setIfInBounds k true) (a.put o.dst undef) lo hi W):jU P ops Q (o::rest) k listed a lo hi W:=
 vQ (by simp[Region.wanted,hg,mT hd hv hb]) hn
theorem CK {v:Value}(hw:Region.wanted o (yielded ops a.tmps)=true)(h:∀w,EX lo hi W w→∀R:Value→Prop,R v→Sj P w w R ((execOp a.eval o).run P w))
 (hn:jU P ops Q rest (k+1) (listed.setIfInBounds k true) (a.put o.dst v) lo hi W):jU P ops Q (o::rest) k listed a lo hi W:=
 .inl ⟨v,.inl ⟨hw,fun w hw=>sq (h w hw)⟩,hn⟩
theorem zc (hr:Region.ready .any ops listed=[k])(hw:Region.wanted o (yielded ops a.tmps)=true)
 (h:∀w,EX lo hi W w→∀K:Act→World→Prop,(∀a' w' lo' hi',lo≤lo'→hi'≤hi→EX lo hi w w'→jU P ops Q rest (k+1) (listed.setIfInBounds k true) a' lo' hi' w'→K a' w')→o.wp P a w K Q):jU P ops Q (o::rest) k listed a lo hi W:=
 .inr ⟨hr,hw,fun w hw=>h w hw _ fun _ _ lo' hi' g1 g2 h1 h2=>⟨h1,lo',hi',g1,g2,h2⟩⟩
end
end
section
open Go.Proofs
theorem QS (a l:Int)(h:bE a l=true)(hl:l < 16):bits .or .i64 a (EF (l+1)+1)=a+eG (l+1):=by
 obtain⟨g1,g2,g3,g4,g5⟩:=dN h;obtain⟨n,rfl⟩:=Int.eq_ofNat_of_zero_le g3;have e1:EF (l+1)+1=((2 ^ (16 - (l+1)).toNat:Nat):Int):=by simp[EF]
 have e2:eG (l+1)=((2 ^ (16 - (l+1)).toNat:Nat):Int):=by simp[eG]
 obtain⟨k,hk⟩:∃k,k=(16 - (l+1)).toNat:=⟨_,rfl⟩;have e3:(16 - l).toNat=k+1:=by omega
 rw[e1,e2,←hk];have Vi:k≤15:=by omega
 have hp:2 ^ k≤2 ^ 15:=Nat.pow_le_pow_right (by omega) Vi;have g6:n % 2 ^ (k+1)=0:=by
  unfold eG at g5;rw[e3]at g5;exact_mod_cast g5
 have hn:n=2 ^ (k+1)*(n / 2 ^ (k+1)):=by have:=ZN n (2 ^ (k+1));omega
 have TP:n|||2 ^ k=n+2 ^ k:=by
  rw[hn];exact(Nat.two_pow_add_eq_or_of_lt (Nat.pow_lt_pow_right (by omega) (by omega)) _).symm
 show IntKind.i64.wrap ((BitVec.ofInt 64 (n:Int)|||BitVec.ofInt 64 ((2 ^ k:Nat):Int)).toNat:Int)=_;rw[BitVec.toNat_or,kH n (by omega),kH _ (by omega),TP,IntKind.wrap_i64];omega
def zd:Value:= .agg #[.int .i64 0,.int .i64 0]
def o0 (a l:Int):Value:=
 if chk a l=0 then (if l=16 then .tuple #[zd,zd,.int .i64 3]else .tuple #[.agg #[.int .i64 a,.int .i64 (l+1)],.agg #[.int .i64 (a+eG (l+1)),.int .i64 (l+1)],.int .i64 0])
 else .tuple #[zd,zd,.int .i64 (chk a l)]
theorem vU (a l:Int)(w:World):
 Calls prog 322 #[.agg #[.int .i64 a,.int .i64 l]] w fun e w'=>e= .returned (o0 a l)∧dA w w':=by
 have hc:=oY a l;unfold o0 zd;by_cases h0:chk a l=0
 ·have hR:bE a l=true:=by simp[bE,h0]
  obtain⟨g1,g2,g3,g4,g5⟩:=dN hR;rw[if_pos h0];rw[h0]at hc;replace hc:=Xj hc;clear h0;by_cases zP:l=16
  ·rw[if_pos zP];have Vj:(l==16)=true:=by simp[zP]
   clear zP;go_enter func322,ntmps322
   go_wp2_with fail
   refine(hc.out _).mono ?_;rintro e w1 ⟨rfl,cl⟩;obtain⟨cm,cr⟩:=aJ cl;have cv:=br cl;(try simp only[Xr,aa,Xw,Xs]at cm cr cv)
   go_wp2_with fail
   refine bodyPost_ret ?_ rfl ⟨rfl,Bel.bel (B:=_) ?_⟩
   ·simp[results,results322,go_sem,cm]
   ·(repeat(first|with_reducible assumption|with_reducible exact Bel.refl _|with_reducible refine Bel.alloc ?_ _|with_reducible refine Bel.drewN ?_ _|with_reducible refine Bel.drew ?_|(with_reducible refine Bel.setCell0 ?_ ?_ _;rotate_left;(first|omega|(simp;done)|(simp;omega)))|(with_reducible refine Bel.setCell ?_ (p:=_) ?_ _;rotate_left;(first|(simp;done)|omega|(simp;omega)))|refine Bel.call ?_ (by assumption)|(refine EX.bel ?_ (by assumption) ?_;rotate_left;(first|omega|(simp;omega)))))
  ·rw[if_neg zP];have Vj:(l==16)=false:=by simp[zP]
   have TP:=QS a l hR (by omega);obtain⟨z1,z2⟩:=pY (l+1) (by omega);have cR:IntKind.i64.wrap (EF (l+1)+1)=EF (l+1)+1:=IntWalk.i64_in _ (by omega);have Vk:=fun W=>od (l+1) W (by omega) (by omega);replace Vk:=Xj Vk;clear zP;go_enter func322,ntmps322
   go_wp2_with fail
   refine(hc.out _).mono ?_;rintro e w1 ⟨rfl,cl⟩;obtain⟨cm,cr⟩:=aJ cl;have cv:=br cl;(try simp only[Xr,aa,Xw,Xs]at cm cr cv)
   have l1:w.heap.size < w1.heap.size:=by omega
   have l2:w.heap.size+1 < w1.heap.size:=by omega
   have l3:w.heap.size+1+1 < w1.heap.size:=by omega
   go_wp2_with fail
   refine EW (w.heap.size+1) (w.heap.size+3) (by kernel_rfl) (by kernel_rfl) (fun _ _ d _ _ h=>by cases d<;>exact h) ?_;repeat(first|((first|refine vR rfl rfl rfl (by with_reducible rfl) ?_|refine vS rfl rfl rfl (by with_reducible rfl) ?_|refine vT rfl rfl rfl (by with_reducible rfl) ?_);simp only[Act.put,Xp,Xu,Xx])|(apply CK;(first|exact bx rfl|exact bD rfl rfl rfl (by with_reducible rfl));intro wq cO R hR;((have ei:=DO cO (by first|omega|(simp;omega)|(simp;done));have Vl:=EX.hi cO;(try simp only[Xr,aa,Xw,Xs]at ei Vl));go_simp;first|exact hR|((go_at_call 49;exact p4 (Vk.out _) hR)));simp only[Act.put,Xp,Xu,Xx]))
   refine zc (by kernel_rfl) (by first|exact bx rfl|exact bD rfl rfl rfl (by with_reducible rfl)) (fun w2 cD K hK=>?_);have dR:=cD.size;have Vm:=DO cD (by first|omega|(simp;omega)|(simp;done));have Vn:=EX.hi cD;have dD:=cD.free;(try simp only[Xr,aa,Xw,Xs]at dR Vm Vn dD)
   (try have l0w2:w.heap.size < w2.heap.size:=by omega)
   (try have l1w2:w.heap.size+1 < w2.heap.size:=by omega)
   (try have l2w2:w.heap.size+1+1 < w2.heap.size:=by omega)
   (try have l3w2:w.heap.size+1+1+1 < w2.heap.size:=by omega)
   obtain⟨u0w2,TQ⟩:=cD.some (b:=w.heap.size+1) (o:=0) (v:=_) (by go_simp;rfl);obtain⟨u1w2,TR⟩:=cD.some (b:=w.heap.size+1) (o:=1) (v:=_) (by go_simp;rfl);go_simp
   refine hK _ _ (w.heap.size+2) (w.heap.size+3) (by omega) (by omega) (by repeat(first|exact EX.refl _|refine EX.setCell ?_ (by omega) (by omega) _)) ?_;clear hK K;obtain⟨v0,Jy⟩:=cD.some (b:=w.heap.size+1+1) (o:=0) (v:=_) (by go_simp;rfl);obtain⟨v1,Bl⟩:=cD.some (b:=w.heap.size+1+1) (o:=1) (v:=_) (by go_simp;rfl);refine zc (by kernel_rfl) (by first|exact bx rfl|exact bD rfl rfl rfl (by with_reducible rfl)) (fun w3 lV K hK=>?_);have FN:=lV.size;have TS:=DO lV (by first|omega|(simp;omega)|(simp;done));have Vo:=EX.hi lV;have D4:=lV.free;(try simp only[Xr,aa,Xw,Xs]at FN TS Vo D4)
   (try have l0w3:w.heap.size < w3.heap.size:=by omega)
   (try have l1w3:w.heap.size+1 < w3.heap.size:=by omega)
   (try have l2w3:w.heap.size+1+1 < w3.heap.size:=by omega)
   (try have l3w3:w.heap.size+1+1+1 < w3.heap.size:=by omega)
   obtain⟨u0w3,TU⟩:=lV.some (b:=w.heap.size+1+1) (o:=0) (v:=_) (by go_simp;rfl);obtain⟨u1w3,TV⟩:=lV.some (b:=w.heap.size+1+1) (o:=1) (v:=_) (by go_simp;rfl);go_simp
   refine hK _ _ (w.heap.size+3) (w.heap.size+3) (by omega) (by omega) (by repeat(first|exact EX.refl _|refine EX.setCell ?_ (by omega) (by omega) _)) ?_;clear hK K;repeat(first|((first|refine vR rfl rfl rfl (by with_reducible rfl) ?_|refine vS rfl rfl rfl (by with_reducible rfl) ?_|refine vT rfl rfl rfl (by with_reducible rfl) ?_);simp only[Act.put,Xp,Xu,Xx])|(apply CK;(first|exact bx rfl|exact bD rfl rfl rfl (by with_reducible rfl));intro wq cO R hR;((have ei:=DO cO (by first|omega|(simp;omega)|(simp;done));have Vl:=EX.hi cO;(try simp only[Xr,aa,Xw,Xs]at ei Vl));go_simp;first|exact hR|(fail));simp only[Act.put,Xp,Xu,Xx]))
   refine Oq ?_;intro w4 Be;have MV:=Be.size;have TW:=DO Be (by first|omega|(simp;omega)|(simp;done));have Vp:=EX.hi Be;have MW:=Be.free;(try simp only[Xr,aa,Xw,Xs]at MV TW Vp MW)
   (try have l0w4:w.heap.size < w4.heap.size:=by omega)
   (try have l1w4:w.heap.size+1 < w4.heap.size:=by omega)
   (try have l2w4:w.heap.size+1+1 < w4.heap.size:=by omega)
   (try have l3w4:w.heap.size+1+1+1 < w4.heap.size:=by omega)
   go_wp2_with fail
   refine bodyPost_ret ?_ rfl ⟨rfl,Bel.bel (B:=_) ?_⟩
   ·simp[results,results322,go_sem,TW,TS,TQ,TR,TU,TV]
   ·(repeat(first|with_reducible assumption|with_reducible exact Bel.refl _|with_reducible refine Bel.alloc ?_ _|with_reducible refine Bel.drewN ?_ _|with_reducible refine Bel.drew ?_|(with_reducible refine Bel.setCell0 ?_ ?_ _;rotate_left;(first|omega|(simp;done)|(simp;omega)))|(with_reducible refine Bel.setCell ?_ (p:=_) ?_ _;rotate_left;(first|(simp;done)|omega|(simp;omega)))|refine Bel.call ?_ (by assumption)|(refine EX.bel ?_ (by assumption) ?_;rotate_left;(first|omega|(simp;omega)))))
 ·rw[if_neg h0];replace h0:(chk a l !=0)=true:=by simpa using h0
  obtain⟨r,hr⟩:∃r,r=chk a l:=⟨_,rfl⟩;rw[←hr]at hc h0 ⊢;clear hr;replace hc:=Xj hc;go_enter func322,ntmps322
  go_wp2_with fail
  refine(hc.out _).mono ?_;rintro e w1 ⟨rfl,cl⟩;obtain⟨cm,cr⟩:=aJ cl;have cv:=br cl;(try simp only[Xr,aa,Xw,Xs]at cm cr cv)
  go_wp2_with fail
  refine bodyPost_ret ?_ rfl ⟨rfl,Bel.bel (B:=_) ?_⟩
  ·simp[results,results322,go_sem,cm]
  ·(repeat(first|with_reducible assumption|with_reducible exact Bel.refl _|with_reducible refine Bel.alloc ?_ _|with_reducible refine Bel.drewN ?_ _|with_reducible refine Bel.drew ?_|(with_reducible refine Bel.setCell0 ?_ ?_ _;rotate_left;(first|omega|(simp;done)|(simp;omega)))|(with_reducible refine Bel.setCell ?_ (p:=_) ?_ _;rotate_left;(first|(simp;done)|omega|(simp;omega)))|refine Bel.call ?_ (by assumption)|(refine EX.bel ?_ (by assumption) ?_;rotate_left;(first|omega|(simp;omega)))))
end
section
open Go.Proofs
theorem EY (b:Nat)(p q:Pfx)(w:World)(h0:w.cell? ⟨b,0,none⟩=some (.int .i64 p.at_))(h1:w.cell? ⟨b,1,none⟩=some (.int .i64 p.len)):
 Calls prog 333 #[.agg #[.int .i64 q.at_,.int .i64 q.len],.pointer (some ⟨b,0,none⟩)] w fun e w'=>e= .returned (.bool (p.meets q))∧dA w w':=by
 have hlt:=dF h0;have hm:=yY p.at_ p.len q.at_ q.len;obtain⟨r,hr⟩:∃r,r=p.meets q:=⟨_,rfl⟩;unfold Pfx.meets at hr;rw[←hr]at hm;unfold Pfx.meets;rw[←hr];clear hr;replace hm:=Xj hm;go_enter func333,ntmps333
 go_wp2_with fail
 refine(hm.out _).mono ?_;rintro e w1 ⟨rfl,cl⟩;obtain⟨cm,cr⟩:=aJ cl;have cv:=br cl;(try simp only[Xr,aa,Xw,Xs]at cm cr cv)
 go_wp2_with fail
 go_ret
 refine⟨rfl,Bel.bel (B:=_) ?_⟩;(repeat(first|with_reducible assumption|with_reducible exact Bel.refl _|with_reducible refine Bel.alloc ?_ _|with_reducible refine Bel.drewN ?_ _|with_reducible refine Bel.drew ?_|(with_reducible refine Bel.setCell0 ?_ ?_ _;rotate_left;(first|omega|(simp;done)|(simp;omega)))|(with_reducible refine Bel.setCell ?_ (p:=_) ?_ _;rotate_left;(first|(simp;done)|omega|(simp;omega)))|refine Bel.call ?_ (by assumption)|(refine EX.bel ?_ (by assumption) ?_;rotate_left;(first|omega|(simp;omega)))))
theorem EZ (b:Nat)(p:Pfx)(us:List Pfx)(w:World)(h0:w.cell? ⟨b,0,none⟩=some (.int .i64 p.at_))(h1:w.cell? ⟨b,1,none⟩=some (.int .i64 p.len)):
 KV prog 333 #[.pointer (some ⟨b,0,none⟩)] cQ (fun q=>p.meets q) us w:=by
 intro W hW x _ cs hR;unfold cQ at hR;subst hR;exact EY b p x W (bV hW h0) (bV hW h1)
theorem k6 {A:lW}(us:List Pfx)(uo:Option Addr)(ucap:Nat)(p:Pfx)(w:World)(h:Sl A w 2 cQ uo ucap us):
 Calls prog 321 #[.slice uo us.length ucap,.agg #[.int .i64 p.at_,.int .i64 p.len]] w fun e w'=>e= .returned (.bool (us.any fun q=>p.meets q))∧dA w w':=by
 have hc:=fun W (hs:Sl A W 2 cQ uo ucap us) h0 h1=>vP 333 #[.pointer (some ⟨w.heap.size,0,none⟩)] (enters_of func333 (by kernel_rfl) rfl) (fun q=>p.meets q) us uo ucap W hs (EZ w.heap.size p us W h0 h1);obtain⟨r,hr⟩:∃r,r=us.any fun q=>p.meets q:=⟨_,rfl⟩;rw[←hr]at hc ⊢;clear hr;replace hc:=Xj hc;go_enter func321,ntmps321
 go_wp2_with fail
 refine(hc.out _ (h.ext (aw _ _)) (by simp) (by simp)).mono ?_;rintro e w1 ⟨rfl,nr⟩;go_wp2_with fail
 go_ret
 exact⟨rfl,aj (aw _ _) nr⟩
end
section
open Go.Proofs Go.Shelf
attribute [local go_sem] Oper.semAt_some
def dt (us:List Pfx):Nat→Pfx→List Pfx
 |0,p=>if us.any p.meets then []else [p]
 |n+1,p=>if us.any p.meets then (if us.contains p then []else dt us n p.low++dt us n p.high)else [p]
theorem jv {p:Pfx}(h:p.right=true)(hl:p.len < 16):p.low.right=true:=by
 obtain⟨g1,g2,g3,g4,g5⟩:=dN h;refine om (by simp[Pfx.low];omega) (by simp[Pfx.low];omega) g3 g4 ?_;show p.at_ % eG (p.len+1)=0;rw[rc g1 hl]at g5;exact ZB (C' ⟨2,by omega⟩ (YL g5))
theorem ir {p:Pfx}(h:p.right=true)(hl:p.len < 16):p.high.right=true:=by
 obtain⟨g1,g2,g3,g4,g5⟩:=dN h;have hf:=yZ h;have hh:=rc g1 hl;have hs:=fd (n:=p.len+1) (by omega);refine om (by simp[Pfx.high];omega) (by simp[Pfx.high];omega) (by simp[Pfx.high];omega) (by simp[Pfx.high];omega) ?_;show (p.at_+eG (p.len+1)) % eG (p.len+1)=0;rw[Int.add_emod_right];rw[hh]at g5;exact ZB (C' ⟨2,by omega⟩ (YL g5))
structure KP (own:World→Nat→Prop)(W W':World):Prop where
 size:W.heap.size≤W'.heap.size
 cells:∀b c t f,¬own W b→W.heap[b]? =some (.cells c t f)→W'.heap[b]? =some (.cells c t f)
 own:∀b,b < W.heap.size→own W' b→own W b
theorem oy {w:World}{b:Nat}{o:Obj}(h:w.heap[b]? =some o):b < w.heap.size:=by
 rcases XP b w.heap.size with h'|h'
 ·exact h'
 ·simp[YM h']at h
theorem KP.trans {own:World→Nat→Prop}{a b c:World}(h:KP own a b)(k:KP own b c):KP own a c:=
 ⟨Yz h.size k.size,fun i x t f hn hc=>k.cells i x t f (fun ho=>hn (h.own i (oy hc) ho)) (h.cells i x t f hn hc),fun i hi ho=>h.own i hi (k.own i (Yy hi h.size) ho)⟩
theorem KP.of {own:World→Nat→Prop}{a b:World}(h:dA a b)(ho:∀i,own b i→own a i):KP own a b:=
 ⟨h.size,fun i x t f _ hc=>yr h hc,fun i _ hi=>ho i hi⟩
theorem KP.cell {own:World→Nat→Prop}{a b:World}(h:KP own a b){i o:Nat}{v:Value}(hn:¬own a i)(hc:a.cell? ⟨i,o,none⟩=some v):b.cell? ⟨i,o,none⟩=some v:=by
 have hlt:=dF hc;obtain⟨x,hx⟩:∃x,a.heap[i]? =some x:=⟨_,YP hlt⟩;cases x with
 |cells c t f=>
  have:=h.cells i c t f hn hx;simp only[YS,hx,this]at hc ⊢;exact hc
 |_=>simp[YS,hx]at hc
theorem Sl.kp {α:Type}{own:World→Nat→Prop}{n₀:Nat}{w w':World}{k:Nat}{R:List Value→α→Prop}{ao:Option Addr}{cap:Nat}{l:List α}(h:Sl (fun b=>b < n₀) w k R ao cap l)(ho:∀b,own w b→n₀≤b)(hb:KP own w w'):Sl (fun b=>b < n₀) w' k R ao cap l:=by
 refine⟨h.cap_le,h.cap_max,fun i hi=>?_⟩;obtain⟨b,off,cs,h1,h2,h3,h4,h5⟩:=h.elem i hi;exact⟨b,off,cs,h1,h2,h3,h4,fun j hj=>hb.cell (fun hx=>by have:=ho b hx;omega) (h5 j hj)⟩
theorem Az {F:Fence}(hd:F.depth=none)(k:Nat):F.room k:=fun d h=>by rw[hd]at h;cases h
theorem RoundIn.anyDepth {F:Fence}(hd:F.depth=none){m m':Nat}{P:Program}{l:Nat}{f:FuncId}{tmps:Array Value}{assign body:Code}{w:World}{R:Ending→World→Prop}
 (h:RoundIn F m P l f tmps assign body w R):RoundIn F m' P l f tmps assign body w R:=⟨h.1,fun c cs _=>h.2 c cs (Az hd _)⟩
theorem YieldAt.anyDepth {F:Fence}(hd:F.depth=none){m:Nat}(m':Nat){P:Program}{l:Nat}{args:Array Value}{W:World}{R:Ending→World→Prop}(h:YieldAt F m P l args W R):YieldAt F m' P l args W R:=by
 obtain⟨fn,tmps,assign,body,hy,hR⟩:=h;exact⟨fn,tmps,assign,body,hy,RoundIn.anyDepth hd hR⟩
def Gy (own:World→Nat→Prop)(J Jx:List Pfx→World→Prop)(pre L:List Pfx)(W:World)(e:Ending)(W':World):Prop:=
 (e= .returned (.bool true)∧J (pre++L) W'∧KP own W W')∨(e= .returned (.bool false)∧∃q,q <+:L∧Jx (pre++q) W')
structure LoopOK (own:World→Nat→Prop)(n₀ N l:Nat)(J Jx:List Pfx→World→Prop):Prop where
 ext:∀s A B,J s A→dA A B→J s B
 extx:∀s A B,Jx s A→dA A B→Jx s B
 own1:∀s A b,J s A→own A b→n₀≤b∧b < A.heap.size
 own2:∀s A B b,J s A→dA A B→own B b→own A b
 round:∀m pre (x:Pfx) W,J pre W→pre.length < N→YieldAt Fence.wide m prog l #[x.v] W fun e W'=>
  (e= .returned (.bool true)∧J (pre++[x]) W'∧KP own W W')∨(e= .returned (.bool false)∧Jx (pre++[x]) W')
theorem LoopOK.kp {own:World→Nat→Prop}{n₀ N l:Nat}{J Jx:List Pfx→World→Prop}(hL:LoopOK own n₀ N l J Jx){s:List Pfx}{A B:World}(hj:J s A)(hx:dA A B):KP own A B:=KP.of hx fun b=>hL.own2 s A B b hj hx
section
variable (own:World→Nat→Prop)(l n₀ N:Nat)(us:List Pfx)(uo:Option Addr)(ucap:Nat)(J Jx:List Pfx→World→Prop)(hL:LoopOK own n₀ N l J Jx)
include hL
theorem zf (p:Pfx)(m:Nat)(pre:List Pfx)(W:World)(hM:us.any p.meets=false)(hs:Sl (fun b=>b < n₀) W 2 cQ uo ucap us)(hj:J pre W)(hN:pre.length+1≤N):
 CallsIn Fence.wide m prog 293 #[p.v,.slice uo us.length ucap,.func (.yield l) #[] #[]] W (Gy own J Jx pre [p] W):=by
 have hm:=fun W' (h:Sl (fun b=>b < n₀) W' 2 cQ uo ucap us)=>k6 us uo ucap p W' h;rw[hM]at hm;replace hm:=Xj hm;clear hM;unfold Pfx.v;refine callsIn_of_wp func293 rfl trivial ?_ rfl;simp only[ntmps293,YH,XA,XZ,XM,D',Zx,Zy,ZS,ZD,Ya,X8];gi_wp2_with fail
 refine⟨trivial,fun h=>(by cases h),?_⟩;refine(callsIn_wide.2 (hm.out _ (hs.ext (aw _ _)))).mono ?_;rintro e w1 ⟨rfl,cl⟩;obtain⟨cm,cr⟩:=aJ cl;have cv:=br cl;(try simp only[Xr,aa,Xw,Xs]at cm cr cv)
 have nr:=aj (aw _ _) cl;obtain⟨fn,tmps,assign,body,hy,hRr⟩:=hL.round (m - 1) pre p w1 (hL.ext _ _ _ hj nr) (by omega);unfold Pfx.v at hy;have jf:=hL.kp hj nr;gi_wp2_with fail
 refine⟨fun h=>(by cases h),?_⟩;refine hRr.mono ?_;rintro e w2 (⟨rfl,Jz,jm⟩|⟨rfl,lO⟩)
 ·gi_wp2_with fail
  go_ret
  exact .inl ⟨rfl,Jz,jf.trans jm⟩
 ·gi_wp2_with fail
  go_ret
  exact .inr ⟨rfl,[p],List.prefix_refl _,lO⟩
theorem Ot:∀(n:Nat) (p:Pfx) (m:Nat) (pre:List Pfx) (W:World),16 - p.len=(n:Int)→p.right=true→Sl (fun b=>b < n₀) W 2 cQ uo ucap us→J pre W→pre.length+(dt us n p).length≤N→
 CallsIn Fence.wide m prog 293 #[p.v,.slice uo us.length ucap,.func (.yield l) #[] #[]] W (Gy own J Jx pre (dt us n p) W):=by
 intro n;induction n with
 |zero=>
  intro p m pre W hn hr hs hj hN;cases hM:us.any p.meets
  ·unfold dt at hN ⊢;rw[hM]at hN ⊢;simp only[YB,if_false,XA,XZ]at hN ⊢;exact zf own l n₀ N us uo ucap J Jx hL p m pre W hM hs hj (by omega)
  ·unfold dt;rw[hM,if_pos rfl];have hm:=fun W' (h:Sl (fun b=>b < n₀) W' 2 cQ uo ucap us)=>k6 us uo ucap p W' h;rw[hM]at hm;have hh:=vU p.at_ p.len;have hc:chk p.at_ p.len=0:=by have:=hr;unfold Pfx.right bE at this;simpa using this
   have hl:p.len=16:=by omega
   have hv:o0 p.at_ p.len= .tuple #[.agg #[.int .i64 0,.int .i64 0],.agg #[.int .i64 0,.int .i64 0],.int .i64 3]:=by unfold o0 zd;rw[if_pos hc,if_pos hl]
   rw[hv]at hh;clear hv hc hM hN hl hn hr;replace hm:=Xj hm;replace hh:=Xj hh;unfold Pfx.v;refine callsIn_of_wp func293 rfl trivial ?_ rfl;simp only[ntmps293,YH,XA,XZ,XM,D',Zx,Zy,ZS,ZD,Ya,X8];gi_wp2_with fail
   refine⟨trivial,fun h=>(by cases h),?_⟩;refine(callsIn_wide.2 (hm.out _ (hs.ext (aw _ _)))).mono ?_;rintro e w1 ⟨rfl,cl⟩;obtain⟨cm,cr⟩:=aJ cl;have cv:=br cl;(try simp only[Xr,aa,Xw,Xs]at cm cr cv)
   have nr:=aj (aw _ _) cl;have l1:W.heap.size < w1.heap.size:=by omega
   gi_wp2_with fail
   refine⟨trivial,fun h=>(by cases h),?_⟩;refine(callsIn_wide.2 (hh.out _)).mono ?_;rintro e w2 ⟨rfl,cD⟩;obtain⟨dQ,dD⟩:=aJ cD;have dR:=br cD;(try simp only[Xr,aa,Xw,Xs]at dQ dD dR)
   have l2:W.heap.size < w2.heap.size:=by omega
   gi_wp2_with fail
   refine⟨trivial,?_⟩;gi_wp2_with fail
   go_ret
   exact .inl ⟨rfl,by rw[Yw];exact hL.ext _ _ _ hj (aj nr (aj cD (aj (aw _ _) (aw _ _)))),hL.kp hj (aj nr (aj cD (aj (aw _ _) (aw _ _))))⟩
 |succ n ih=>
  intro p m pre W hn hr hs hj hN;cases hM:us.any p.meets
  ·unfold dt at hN ⊢;rw[hM]at hN ⊢;simp only[YB,if_false,XA,XZ]at hN ⊢;exact zf own l n₀ N us uo ucap J Jx hL p m pre W hM hs hj (by omega)
  ·have hm:=fun W' (h:Sl (fun b=>b < n₀) W' 2 cQ uo ucap us)=>k6 us uo ucap p W' h;rw[hM]at hm;have hh:=vU p.at_ p.len;have hc:chk p.at_ p.len=0:=by have:=hr;unfold Pfx.right bE at this;simpa using this
   have hl:p.len < 16:=by omega
   have hv:o0 p.at_ p.len= .tuple #[.agg #[.int .i64 p.at_,.int .i64 (p.len+1)],.agg #[.int .i64 (p.at_+eG (p.len+1)),.int .i64 (p.len+1)],.int .i64 0]:=by unfold o0;rw[if_pos hc,if_neg (by omega)]
   rw[hv]at hh;have qr:=fun W' (h:Sl (fun b=>b < n₀) W' 2 cQ uo ucap us)=>EV p us uo ucap W' h;unfold dt at hN ⊢;rw[hM,if_pos rfl]at hN ⊢;clear hv hc hM;replace hm:=Xj hm;replace hh:=Xj hh;cases hC:us.contains p
   ·rw[hC]at qr hN;simp only[YB,if_false,XY]at hN ⊢;replace qr:=Xj qr;have ihl:=fun m' pre' W'=>ih p.low m' pre' W' (by simp[Pfx.low];omega) (jv hr hl);have ihr:=fun m' pre' W'=>ih p.high m' pre' W' (by simp[Pfx.high];omega) (ir hr hl);obtain⟨L,WK⟩:∃L,L=dt us n p.low:=⟨_,rfl⟩;obtain⟨M,Uo⟩:∃M,M=dt us n p.high:=⟨_,rfl⟩;rw[←WK]at ihl hN ⊢;rw[←Uo]at ihr hN ⊢;simp only[Pfx.v,Pfx.low]at ihl;simp only[Pfx.v,Pfx.high]at ihr;replace ihl:=Xj ihl;replace ihr:=Xj ihr;clear ih WK Uo hC hl hn hr;unfold Pfx.v;refine callsIn_of_wp func293 rfl trivial ?_ rfl;simp only[ntmps293,YH,XA,XZ,XM,D',Zx,Zy,ZS,ZD,Ya,X8];gi_wp2_with fail
    refine⟨trivial,fun h=>(by cases h),?_⟩;refine(callsIn_wide.2 (hm.out _ (hs.ext (aw _ _)))).mono ?_;rintro e w1 ⟨rfl,cl⟩;obtain⟨cm,cr⟩:=aJ cl;have cv:=br cl;(try simp only[Xr,aa,Xw,Xs]at cm cr cv)
    have nr:=aj (aw _ _) cl;have l1:W.heap.size < w1.heap.size:=by omega
    gi_wp2_with fail
    refine⟨trivial,fun h=>(by cases h),?_⟩;refine(callsIn_wide.2 (hh.out _)).mono ?_;rintro e w2 ⟨rfl,cD⟩;obtain⟨dQ,dD⟩:=aJ cD;have dR:=br cD;(try simp only[Xr,aa,Xw,Xs]at dQ dD dR)
    have lO:=aj nr cD;have l2:W.heap.size < w2.heap.size:=by omega
    gi_wp2_with fail
    refine⟨trivial,fun h=>(by cases h),?_⟩;refine(callsIn_wide.2 (qr.out _ ((hs.ext lO).ext (aj (aw _ _) (aw _ _))))).mono ?_;rintro e w3 ⟨rfl,lV⟩;obtain⟨yj,D4⟩:=aJ lV;have FN:=br lV;(try simp only[Xr,aa,Xw,Xs]at yj D4 FN)
    have Jk:=aj lO (aj (aj (aw _ _) (aw _ _)) lV);have WL:=hL.ext _ _ _ hj Jk;have hk3:=hL.kp hj Jk;have l3:w2.heap.size < w3.heap.size:=by omega
    have l4:w2.heap.size+1 < w3.heap.size:=by omega
    have l5:W.heap.size < w3.heap.size:=by omega
    have d0:w3.cell? ⟨w2.heap.size,0,none⟩=some (.int .i64 p.at_):=by rw[yj _ _ (by omega)];go_simp
    have d1:w3.cell? ⟨w2.heap.size,1,none⟩=some (.int .i64 (p.len+1)):=by rw[yj _ _ (by omega)];go_simp
    have e0:w3.cell? ⟨w2.heap.size+1,0,none⟩=some (.int .i64 (p.at_+eG (p.len+1))):=by rw[yj _ _ (by omega)];go_simp
    have e1:w3.cell? ⟨w2.heap.size+1,1,none⟩=some (.int .i64 (p.len+1)):=by rw[yj _ _ (by omega)];go_simp
    have no:¬own w3 (w2.heap.size+1):=fun ho=>by
     have:=(hL.own1 _ _ _ hj (hL.own2 _ _ _ _ hj Jk ho)).2;omega
    have WM:=hs.ext Jk;clear yj D4 dQ dD cm cr;gi_wp2_with fail
    refine⟨trivial,fun h=>(by cases h),?_⟩;refine(ihl.out _ pre _ WM WL (by omega)).mono ?_;rintro e w4 (⟨rfl,hj4,Ur⟩|⟨rfl,q,hq,hx4⟩)
    ·have Us:=WM.kp (fun b hb=>(hL.own1 _ _ _ WL hb).1) Ur;have e0':=Ur.cell no e0;have e1':=Ur.cell no e1;clear e0 e1 d0 d1;gi_wp2_with fail
     refine⟨trivial,fun h=>(by cases h),?_⟩;refine(ihr.out _ _ _ Us hj4 (by simp;omega)).mono ?_;rintro e w5 (⟨rfl,hj5,hk5⟩|⟨rfl,q,hq,hx5⟩)
     ·gi_wp2_with fail
      go_ret
      exact .inl ⟨rfl,by rw[←X4];exact hj5,hk3.trans (Ur.trans hk5)⟩
     ·gi_wp2_with fail
      go_ret
      obtain⟨r,hr⟩:=hq;exact .inr ⟨rfl,L++q,⟨r,by rw[←hr];simp⟩,by rw[←X4];exact hx5⟩
    ·gi_wp2_with fail
     refine⟨trivial,?_⟩;gi_wp2_with fail
     go_ret
     exact .inr ⟨rfl,q,hq.trans (List.prefix_append _ _),hx4⟩
   ·rw[hC]at qr;rw[if_pos rfl];replace qr:=Xj qr;clear ih hC hl hn hr hN;unfold Pfx.v;refine callsIn_of_wp func293 rfl trivial ?_ rfl;simp only[ntmps293,YH,XA,XZ,XM,D',Zx,Zy,ZS,ZD,Ya,X8];gi_wp2_with fail
    refine⟨trivial,fun h=>(by cases h),?_⟩;refine(callsIn_wide.2 (hm.out _ (hs.ext (aw _ _)))).mono ?_;rintro e w1 ⟨rfl,cl⟩;obtain⟨cm,cr⟩:=aJ cl;have cv:=br cl;(try simp only[Xr,aa,Xw,Xs]at cm cr cv)
    have nr:=aj (aw _ _) cl;have l1:W.heap.size < w1.heap.size:=by omega
    gi_wp2_with fail
    refine⟨trivial,fun h=>(by cases h),?_⟩;refine(callsIn_wide.2 (hh.out _)).mono ?_;rintro e w2 ⟨rfl,cD⟩;obtain⟨dQ,dD⟩:=aJ cD;have dR:=br cD;(try simp only[Xr,aa,Xw,Xs]at dQ dD dR)
    have lO:=aj nr cD;have l2:W.heap.size < w2.heap.size:=by omega
    gi_wp2_with fail
    refine⟨trivial,fun h=>(by cases h),?_⟩;refine(callsIn_wide.2 (qr.out _ ((hs.ext lO).ext (aj (aw _ _) (aw _ _))))).mono ?_;rintro e w3 ⟨rfl,lV⟩;obtain⟨yj,D4⟩:=aJ lV;have FN:=br lV;(try simp only[Xr,aa,Xw,Xs]at yj D4 FN)
    have Jk:=aj lO (aj (aj (aw _ _) (aw _ _)) lV);gi_wp2_with fail
    go_ret
    exact .inl ⟨rfl,by simpa using hL.ext _ _ _ hj Jk,hL.kp hj Jk⟩
end
end
section
open Go.Proofs Go.Shelf
attribute [local go_sem] Oper.semAt_some
theorem KX (p:Pfx)(uo:Option Addr)(k ucap:Nat)(w:World):
 Calls prog 244 #[p.v,.slice uo k ucap] w fun e w'=>e= .returned (.func (.func 292) #[] #[.pointer (some ⟨w.heap.size,0,none⟩),.pointer (some ⟨w.heap.size+1,0,none⟩)])∧
  w'=(w.alloc (.cells #[.int .i64 p.at_,.int .i64 p.len] 32)).alloc (.cells #[.slice uo k ucap] 149):=by
 unfold Pfx.v;go_enter func244,ntmps244
 go_wp2_with fail
 go_ret
 exact⟨rfl,rfl⟩
theorem vV {β:Type}{B:Nat}{J:β→World→Prop}(h:AbidesFrom B J):∀s X Y,J s X→dA X Y→J s Y:=fun s X Y hj hx=>
 h s X Y none hj ⟨hx.os,hx.tape,hx.output,hx.size,fun b hb _=>hx.block b hb⟩ (fun r e=>by cases e)
def KG (own:World→Nat→Prop)(G:World→Prop)(W W':World):Prop:=G W→KP own W W'∧G W'
theorem KY (own:World→Nat→Prop)(G:World→Prop)(l n₀ b1 b2:Nat)(us:List Pfx)(uo:Option Addr)(ucap:Nat)(p:Pfx)(n:Nat)(hn:16 - p.len=(n:Int))(hr:p.right=true)(J Jx:List Pfx→World→Prop)
 (m:Nat) (hL:LoopOK own n₀ (dt us n p).length l J Jx) (W:World) (c0:W.cell? ⟨b1,0,none⟩=some (.int .i64 p.at_)) (c1:W.cell? ⟨b1,1,none⟩=some (.int .i64 p.len)) (c2:W.cell? ⟨b2,0,none⟩=some (.slice uo us.length ucap))
 (hs:Sl (fun b=>b < n₀) W 2 cQ uo ucap us) (h0:J [] W):
 CallsIn Fence.wide m prog 292 #[.func (.yield l) #[] #[],.pointer (some ⟨b1,0,none⟩),.pointer (some ⟨b2,0,none⟩)] W fun e W'=>(∃v,e= .returned v)∧
  ((∃ys,ys=dt us n p∧J ys W')∨(∃pre,pre <+:dt us n p∧Jx pre W')):=by
 have hd:=Ot own l n₀ (dt us n p).length us uo ucap J Jx hL n p (m - 1) [] W hn hr hs h0 (by simp);simp only[Pfx.v]at hd;replace hd:=Xj hd;clear hL hn hr;refine callsIn_of_wp func292 rfl trivial ?_ rfl;simp only[ntmps292,YH,XA,XZ,XM,D',Zx,Zy,ZS,ZD,Ya,X8];gi_wp2_with fail
 refine⟨trivial,fun h=>(by cases h),?_⟩;refine hd.out.mono ?_;rintro e w1 (⟨rfl,hj,hk⟩|⟨rfl,q,hq,hx⟩)
 ·gi_wp2_with fail
  go_end0
  exact⟨⟨_,rfl⟩,.inl ⟨_,rfl,by simpa using hj⟩⟩
 ·gi_wp2_with fail
  go_end0
  exact⟨⟨_,rfl⟩,.inr ⟨q,hq,by simpa using hx⟩⟩
theorem E0 (own:World→Nat→Prop)(G:World→Prop)(m n₀ b1 b2:Nat)(us:List Pfx)(uo:Option Addr)(ucap:Nat)(p:Pfx)(n:Nat)(hn:16 - p.len=(n:Int))(hr:p.right=true)(w:World)
 (hG0:G w) (hG1:∀A b,G A→own A b→n₀≤b∧b < A.heap.size) (hG2:∀A B b,G A→dA A B→own B b→own A b) (WN:∀A B,G A→dA A B→G B)
 (c0:w.cell? ⟨b1,0,none⟩=some (.int .i64 p.at_)) (c1:w.cell? ⟨b1,1,none⟩=some (.int .i64 p.len)) (c2:w.cell? ⟨b2,0,none⟩=some (.slice uo us.length ucap))
 (hs:Sl (fun b=>b < n₀) w 2 cQ uo ucap us):
 SeqStopsK Fence.wide m prog 292 #[.pointer (some ⟨b1,0,none⟩),.pointer (some ⟨b2,0,none⟩)] (fun x:Pfx=>#[x.v]) (KG own G) (fun ys=>ys=dt us n p) (fun pre=>pre <+:dt us n p) (dt us n p).length w:=by
 intro l J Jx W hW hJ Vq hY h0;have hL:LoopOK own n₀ (dt us n p).length l (fun s A=>J s A∧G A) Jx:=by
  refine⟨fun s A B h hx=>⟨vV hJ s A B h.1 hx,WN A B h.2 hx⟩,fun s A B h hx=>vV Vq s A B h hx,fun s A b h ho=>hG1 A b h.2 ho,fun s A B b h hx ho=>hG2 A B b h.2 hx ho,fun m' pre x W1 h hl=>?_⟩;refine YieldAt.mono (YieldAt.anyDepth rfl m' (hY pre x W1 h.1 hl)) fun e W2 h2=>?_;rcases h2 with⟨he,hj,hk⟩|h2
  ·exact .inl ⟨he,⟨hj,(hk h.2).2⟩,(hk h.2).1⟩
  ·exact .inr h2
 refine(KY own G l n₀ b1 b2 us uo ucap p n hn hr (fun s A=>J s A∧G A) Jx m hL W (bV hW c0) (bV hW c1) (bV hW c2) (hs.ext hW) ⟨h0,WN _ _ hG0 hW⟩).mono ?_;rintro e W' ⟨hv,⟨ys,hy,hj⟩|h⟩
 ·exact⟨hv,.inl ⟨ys,hy,hj.1⟩⟩
 ·exact⟨hv,.inr h⟩
end
section
open Go.Proofs
def iX (root:Pfx):Int→List Pfx→Bool
 |_,[]=>true
 |free,p::ps=>dO p root&&(decide (free≤p.at_)&&iX root (p.at_+eG p.len) ps)
theorem tI (root:Pfx)(f:Int)(p:Pfx)(ps:List Pfx):iX root f (p::ps)=(dO p root&&(decide (f≤p.at_)&&iX root (p.at_+eG p.len) ps)):=rfl
def hU (root:Pfx)(us:List Pfx):Int:=if us.length>32 then 2 else if chk root.at_ root.len=0 then (if iX root root.at_ us then 0 else 1)else 1
theorem E1 {a l b m:Int}(h:ol a l b m=true):bE a l=true:=by
 unfold ol at h;simp at h;exact h.1.1.1
theorem iY {A:lW}(root:Pfx)(us:List Pfx)(uo:Option Addr)(ucap:Nat)(w:World)(h:Sl A w 2 cQ uo ucap us):
 Calls prog 88 #[.agg #[.int .i64 root.at_,.int .i64 root.len,.slice uo us.length ucap]] w fun e w'=>e= .returned (.int .i64 (hU root us))∧dA w w':=by
 have fV:=h.cap_le;have Jw:=h.cap_max;by_cases fB:us.length>32
 ·have hr:hU root us=2:=by unfold hU;rw[if_pos fB]
  rw[hr];have hI:(32:Int) < (us.length:Int):=by omega
  clear hr fB;go_enter func88,ntmps88
  go_wp2_with fail
  go_ret
  refine⟨rfl,Bel.bel (B:=_) ?_⟩;(repeat(first|with_reducible assumption|with_reducible exact Bel.refl _|with_reducible refine Bel.alloc ?_ _|with_reducible refine Bel.drewN ?_ _|with_reducible refine Bel.drew ?_|(with_reducible refine Bel.setCell0 ?_ ?_ _;rotate_left;(first|omega|(simp;done)|(simp;omega)))|(with_reducible refine Bel.setCell ?_ (p:=_) ?_ _;rotate_left;(first|(simp;done)|omega|(simp;omega)))|refine Bel.call ?_ (by assumption)|(refine EX.bel ?_ (by assumption) ?_;rotate_left;(first|omega|(simp;omega)))))
 ·have hI:(us.length:Int)≤32:=by omega
  have a9:=oY root.at_ root.len;by_cases hc:chk root.at_ root.len=0
  ·obtain⟨r,hr⟩:∃r,r=hU root us:=⟨_,rfl⟩;rw[←hr];have ki:r=if iX root root.at_ us then 0 else 1:=by rw[hr];unfold hU;rw[if_neg fB,if_pos hc]
   rw[hc]at a9;clear hr hc fB;replace hr:=Xj ki;clear ki;replace a9:=Xj a9;go_enter func88,ntmps88
   go_wp2_with fail
   refine(a9.out _).mono ?_;rintro e w1 ⟨rfl,cl⟩;obtain⟨cm,cr⟩:=aJ cl;have cv:=br cl;(try simp only[Xr,aa,Xw,Xs]at cm cr cv)
   have l1:w.heap.size < w1.heap.size:=by omega
   go_wp2_with fail
   go_loopw [3,20] (fun s3 s20 wr=>∃(k:Nat) (f:Int),k≤us.length∧s20= .int .i64 k∧s3= .int .i64 f∧Hid (iX root root.at_ us=iX root f (us.drop k))∧dA w1 wr) (fun _ s20 _=>us.length - (intOf s20).toNat)
   case atStart=>exact⟨0,root.at_,XE _,rfl,rfl,Xj rfl,Below.refl _ _⟩
   case round=>
    obtain⟨k,f,hk,rfl,rfl,hu,hx⟩:=hrel;have A4:Bel w.heap.size w wr:=(((Bel.refl w).alloc _).call cl).call hx;obtain⟨RP,FH⟩:=aJ hx;have TX:=br hx;have lr:w.heap.size < wr.heap.size:=by omega
    by_cases hlt:k < us.length
    ·have ew:(k:Int) < (us.length:Int):=by omega
     have D5:us.drop k=us[k]::us.drop (k+1):=YQ hlt;rw[D5]at hu;clear D5;obtain⟨b,off,cs,rfl,-,bR,hR,fq⟩:=h.elem k hlt;replace fq:=eM (aj (aj (aw _ _) cl) hx) fq;unfold cQ at hR;subst hR;obtain⟨k0,k1⟩:=ju fq;have lb:=dF k0;obtain⟨p,hp⟩:∃p,p=us[k]:=⟨_,rfl⟩;rw[←hp]at k0 k1 hu;clear fq hp h;have dE:=kQ p.at_ p.len root.at_ root.len;obtain⟨q,hq⟩:∃q,q=ol p.at_ p.len root.at_ root.len:=⟨_,rfl⟩;rw[←hq]at dE;have xt:iX root root.at_ us=(q&&(decide (f≤p.at_)&&iX root (p.at_+eG p.len) (us.drop (k+1)))):=by rw[hu.out,tI,hq];rfl
     clear hu;cases q
     case false=>
      have gh:r=1:=by rw[hr.out,xt];rfl
      replace gh:=Xj gh;clear xt hr hq;replace dE:=Xj dE;go_wp2_with fail
      refine(dE.out _).mono ?_;rintro e w2 ⟨rfl,cD⟩;obtain⟨dQ,dD⟩:=aJ cD;have dR:=br cD;(try simp only[Xr,aa,Xw,Xs]at dQ dD dR)
      go_wp2_with fail
      go_ret
      refine⟨cf gh.out.symm,Bel.bel (B:=_) ?_⟩;(repeat(first|with_reducible assumption|with_reducible exact Bel.refl _|with_reducible refine Bel.alloc ?_ _|with_reducible refine Bel.drewN ?_ _|with_reducible refine Bel.drew ?_|(with_reducible refine Bel.setCell0 ?_ ?_ _;rotate_left;(first|omega|(simp;done)|(simp;omega)))|(with_reducible refine Bel.setCell ?_ (p:=_) ?_ _;rotate_left;(first|(simp;done)|omega|(simp;omega)))|refine Bel.call ?_ (by assumption)|(refine EX.bel ?_ (by assumption) ?_;rotate_left;(first|omega|(simp;omega)))))
     case true=>
      have DW:=E1 hq.symm;obtain⟨g1,g2,g3,g4,-⟩:=dN DW;obtain⟨z1,z2⟩:=fd g1;have cT:=Cp p.at_ p.len;rw[tH DW]at cT;have cR:IntKind.i64.wrap (p.at_+eG p.len)=p.at_+eG p.len:=IntWalk.i64_in _ (by omega);replace dE:=Xj dE;replace cT:=Xj cT;clear hq DW;by_cases hf:f≤p.at_
      ·have MX:iX root root.at_ us=iX root (p.at_+eG p.len) (us.drop (k+1)):=by rw[xt];simp[hf]
       clear xt;replace MX:=Xj MX;go_wp2_with fail
       refine(dE.out _).mono ?_;rintro e w2 ⟨rfl,cD⟩;obtain⟨dQ,dD⟩:=aJ cD;have dR:=br cD;(try simp only[Xr,aa,Xw,Xs]at dQ dD dR)
       have l2:w.heap.size < w2.heap.size:=by omega
       have l3:wr.heap.size < w2.heap.size:=by omega
       go_wp2_with fail
       refine b8 (by kernel_rfl) (by kernel_rfl) (fun _ _ d _ _ h=>by cases d<;>exact h) ?_;repeat(first|((first|refine bs rfl rfl rfl (by with_reducible rfl) ?_|refine bt rfl rfl rfl (by with_reducible rfl) ?_|refine bu rfl rfl rfl (by with_reducible rfl) ?_);simp only[Act.put,Xp,Xu,Xx])|(apply ci;(first|exact bx rfl|exact bD rfl rfl rfl (by with_reducible rfl));intro wq cO R hR;((have ei:=(aJ cO).1;(try simp only[Xr,aa,Xw,Xs]at ei));go_simp;first|exact hR|((go_at_call 176;exact iE (cT.out _) hR)));simp only[Act.put,Xp,Xu,Xx]))
       refine dL ?_;intro w3 lV;obtain⟨yj,D4⟩:=aJ lV;have FN:=br lV;(try simp only[Xr,aa,Xw,Xs]at yj D4 FN)
       go_wp2_with fail
       go_roundw
       case rel=>exact⟨k+1,_,by omega,by go_num,rfl,MX,aj hx (aj (aj (aw _ _) cD) lV)⟩
       case measure=>simp[intOf];omega
      ·have gh:r=1:=by rw[hr.out,xt];simp[hf]
       replace gh:=Xj gh;have hf':p.at_ < f:=by omega
       clear xt hr hf;go_wp2_with fail
       refine(dE.out _).mono ?_;rintro e w2 ⟨rfl,cD⟩;obtain⟨dQ,dD⟩:=aJ cD;have dR:=br cD;(try simp only[Xr,aa,Xw,Xs]at dQ dD dR)
       have l2:w.heap.size < w2.heap.size:=by omega
       have l3:wr.heap.size < w2.heap.size:=by omega
       go_wp2_with fail
       go_ret
       refine⟨cf gh.out.symm,Bel.bel (B:=_) ?_⟩;(repeat(first|with_reducible assumption|with_reducible exact Bel.refl _|with_reducible refine Bel.alloc ?_ _|with_reducible refine Bel.drewN ?_ _|with_reducible refine Bel.drew ?_|(with_reducible refine Bel.setCell0 ?_ ?_ _;rotate_left;(first|omega|(simp;done)|(simp;omega)))|(with_reducible refine Bel.setCell ?_ (p:=_) ?_ _;rotate_left;(first|(simp;done)|omega|(simp;omega)))|refine Bel.call ?_ (by assumption)|(refine EX.bel ?_ (by assumption) ?_;rotate_left;(first|omega|(simp;omega)))))
    ·have ew:¬(k:Int) < (us.length:Int):=by omega
     obtain rfl:k=us.length:=by omega
     have gh:r=0:=by rw[hr.out,hu.out,Y7];rfl
     replace gh:=Xj gh;clear hr hu;go_wp2_with fail
     go_ret
     exact⟨cf gh.out.symm,A4.bel⟩
  ·have hr:hU root us=1:=by unfold hU;rw[if_neg fB,if_neg hc]
   rw[hr];obtain⟨c,ei⟩:∃c,c=chk root.at_ root.len:=⟨_,rfl⟩;rw[←ei]at a9;have bB:(c !=0)=true:=by rw[ei];simpa using hc
   clear hr fB hc ei;replace a9:=Xj a9;go_enter func88,ntmps88
   go_wp2_with fail
   refine(a9.out _).mono ?_;rintro e w1 ⟨rfl,cl⟩;obtain⟨cm,cr⟩:=aJ cl;have cv:=br cl;(try simp only[Xr,aa,Xw,Xs]at cm cr cv)
   go_wp2_with fail
   go_ret
   refine⟨rfl,Bel.bel (B:=_) ?_⟩;(repeat(first|with_reducible assumption|with_reducible exact Bel.refl _|with_reducible refine Bel.alloc ?_ _|with_reducible refine Bel.drewN ?_ _|with_reducible refine Bel.drew ?_|(with_reducible refine Bel.setCell0 ?_ ?_ _;rotate_left;(first|omega|(simp;done)|(simp;omega)))|(with_reducible refine Bel.setCell ?_ (p:=_) ?_ _;rotate_left;(first|(simp;done)|omega|(simp;omega)))|refine Bel.call ?_ (by assumption)|(refine EX.bel ?_ (by assumption) ?_;rotate_left;(first|omega|(simp;omega)))))
end
section
open Go.Proofs Go.Shelf
attribute [local go_sem] Oper.semAt_some
def iZ (root:Pfx)(us:List Pfx):List Pfx:=dt us (16 - root.len).toNat root
@[go_sem] def Pfx.zero:Pfx:=⟨0,0⟩
def lv (root:Pfx)(us:List Pfx)(size:Int):Pfx × Bool × Int:=
 if hU root us=0 then
  (if size < root.len∨16 < size then (Pfx.zero,false,3)else match (iZ root us).find? (fun q=>decide (q.len≤size))with|some q=>(⟨q.at_,size⟩,true,0)|none=>(Pfx.zero,false,0))
 else (Pfx.zero,false,hU root us)
def po (W:World)(b:Nat)(cs:Array Value)(t:TypeId):Prop:=W.heap[b]? =some (.cells cs t (0,0))
theorem eN {A B:World}{row:Option Nat}{b:Nat}{cs:Array Value}{t:TypeId}(h:po A b cs t)(hg:A.grownBy B row)(hr:∀r,row=some r→∃o:Obj,A.heap[r]? =some o∧o.isCells=false):po B b cs t:=
 (hg.block b (oy h) (fun e=>by obtain⟨o,ho,hc⟩:=hr b e.symm;rw[show A.heap[b]? =_ from h]at ho;cases ho;cases hc)).trans h
theorem kz {A B:World}{b:Nat}{cs:Array Value}{t:TypeId}(h:po A b cs t)(hx:dA A B):po B b cs t:=yr hx h
theorem du {W:World}{b o:Nat}{cs:Array Value}{t:TypeId}{v:Value}(h:po W b cs t)(hv:cs[o]? =some v):W.cell? ⟨b,o,none⟩=some v:=xv h hv
theorem my {W:World}{b o:Nat}{cs:Array Value}{t:TypeId}(h:po W b cs t):W.frozen? ⟨b,o,none⟩=false:=lP h
theorem lI {W:World}{b o:Nat}{cs:Array Value}{t:TypeId}(h:po W b cs t)(v:Value):po (W.setCell ⟨b,o,none⟩ v) b (cs.setIfInBounds o v) t:=xw h v
theorem dv {W:World}{b c o:Nat}{cs:Array Value}{t:TypeId}(h:po W b cs t)(bB:c≠b)(v:Value):po (W.setCell ⟨c,o,none⟩ v) b cs t:=(lX v bB).trans h
theorem Sl.inW {α:Type}{A:lW}{w:World}{k:Nat}{R:List Value→α→Prop}{ao:Option Addr}{cap:Nat}{l:List α}(h:Sl A w (k+1) R ao cap l):Sl (fun b=>b < w.heap.size) w (k+1) R ao cap l:=by
 refine⟨h.cap_le,h.cap_max,fun i hi=>?_⟩;obtain⟨b,off,cs,h1,h2,h3,h4,h5⟩:=h.elem i hi;exact⟨b,off,cs,h1,dF (h5 0 (by omega)),h3,h4,h5⟩
theorem UQ {own:World→Nat→Prop}{G:World→Prop}{A B C:World}(h:KG own G A B)(k:KG own G B C):KG own G A C:=fun g=>⟨(h g).1.trans (k (h g).2).1,(k (h g).2).2⟩
abbrev KZ:World→Nat→Prop:=fun _ _=>False
abbrev UR:World→Prop:=fun _=>True
theorem P1 {W W':World}(h:dA W W'):KG KZ UR W W':=fun _=>⟨KP.of h fun _ h=>h,trivial⟩
theorem Ii {w:World}(W:World)(l:Nat)(o o':Obj)(_:w.heap.size≤l)(h:W.heap[l]? =some o)(hc:o.isCells=false)(_:o.isWalk=false):KG KZ UR W (W.putObj l o'):=fun _=>
 ⟨⟨(grownBy_putObj' W l o').size,fun b c t f _ hb=>((grownBy_putObj' W l o').block b (oy hb) (fun e=>by cases e;rw[h]at hb;cases hb;cases hc)).trans hb,fun b _ ho=>ho⟩,trivial⟩
def SW (w w1:World)(size:Int)(pre:List Pfx)(W:World):Prop:=
 ((∀y∈pre,decide (y.len≤size)=false)∧po W (w.heap.size+1) #[.int .i64 size] 3∧po W (w.heap.size+2) #[.int .i64 0,.int .i64 0] 32∧po W (w.heap.size+3) #[.bool false] 4∧po W (w.heap.size+4) #[.int .i64 0] 37∧w1.heap.size≤W.heap.size)∧Below w.heap.size w W
def SX (w:World)(size:Int)(c:Code)(pre:List Pfx)(W:World):Prop:=
 (c= .ret∧∃q x,pre=q++[x]∧decide (x.len≤size)=true∧(∀y∈q,decide (y.len≤size)=false)∧po W (w.heap.size+2) #[.int .i64 x.at_,.int .i64 size] 32∧po W (w.heap.size+3) #[.bool true] 4∧po W (w.heap.size+4) #[.int .i64 0] 37)∧Below w.heap.size w W
theorem CM (w w1:World)(size:Int)(B:Nat)(hB:w.heap.size≤B):OwnFrom B (SW w w1 size):=by
 intro s X Y row h hg hr;obtain⟨⟨h1,h2,h3,h4,h5,h6⟩,h7⟩:=h;have hr':∀r,row=some r→∃o:Obj,X.heap[r]? =some o∧o.isCells=false:=fun r e=>(hr r e).2;exact⟨⟨h1,eN h2 hg hr',eN h3 hg hr',eN h4 hg hr',eN h5 hg hr',Yz h6 hg.size⟩,h7.grown hg h7.size (fun k e=>Yz hB (hr k e).1)⟩
theorem K0 (w:World)(size:Int)(c:Code)(B:Nat)(hB:w.heap.size≤B):OwnFrom B (SX w size c):=by
 intro s X Y row h hg hr;obtain⟨⟨h1,q,x,h2,h3,h4,h5,h6,h7⟩,h8⟩:=h;have hr':∀r,row=some r→∃o:Obj,X.heap[r]? =some o∧o.isCells=false:=fun r e=>(hr r e).2;exact⟨⟨h1,q,x,h2,h3,h4,eN h5 hg hr',eN h6 hg hr',eN h7 hg hr'⟩,h8.grown hg h8.size (fun k e=>Yz hB (hr k e).1)⟩
def K4 (w w1:World)(root:Pfx)(uo:Option Addr)(n ucap:Nat)(size:Int)(x:Pfx)(Bx:Nat):Act:=
 {tmps:=#[.agg #[.int .i64 root.at_,.int .i64 root.len,.slice uo n ucap],.int .i64 size,.pointer (some ⟨w.heap.size,0,none⟩),.pointer (some ⟨w.heap.size+1,0,none⟩),.pointer (some ⟨w.heap.size+1+1,0,none⟩),.pointer (some ⟨w.heap.size+1+1+1,0,none⟩),.pointer (some ⟨w.heap.size+1+1+1+1,0,none⟩),.int .i64 0,.pointer (some ⟨Bx,0,none⟩),
  .agg #[.int .i64 root.at_,.int .i64 root.len,.slice uo n ucap],.int .i64 0,.int .i64 0,.bool false,undef,undef,.int .i64 size,.pointer (some ⟨w.heap.size,0,none⟩),.pointer (some ⟨w.heap.size,1,none⟩),.int .i64 root.len,.bool false,.bool false,.int .i64 size,.bool false,.bool false,undef,.pointer (some ⟨w.heap.size,0,none⟩),.agg #[.int .i64 root.at_,.int .i64 root.len],.pointer (some ⟨w.heap.size,2,none⟩),.slice uo n ucap,
  .func (.func 292) #[] #[.pointer (some ⟨w1.heap.size,0,none⟩),.pointer (some ⟨w1.heap.size+1,0,none⟩)],.agg #[.int .i64 x.at_,.int .i64 x.len],undef,undef,undef,undef,undef,undef,undef,undef,undef],defers:=[]}
def SY (w w1:World)(root:Pfx)(uo:Option Addr)(n ucap:Nat)(size:Int)(x:Pfx)(a':Act)(W:World):Prop:=
 ∃Bx,w1.heap.size≤Bx∧po W Bx #[.int .i64 x.at_,.int .i64 x.len] 32∧a'=K4 w w1 root uo n ucap size x Bx
theorem K5 {A:lW}(root:Pfx)(us:List Pfx)(uo:Option Addr)(ucap:Nat)(size:Int)(w:World)(h:Sl A w 2 cQ uo ucap us)(A6:hU root us=0)(h1:root.len≤size)(h2:size≤16):
 Calls prog 201 #[.agg #[.int .i64 root.at_,.int .i64 root.len,.slice uo us.length ucap],.int .i64 size] w fun e w'=>
  e= .returned (.tuple #[(lv root us size).1.v,.bool (lv root us size).2.1,.int .i64 (lv root us size).2.2])∧dA w w':=by
 have a9:=fun W (h:Sl A W 2 cQ uo ucap us)=>iY root us uo ucap W h;rw[A6]at a9;replace a9:=Xj a9;have TY:=fun W=>KX root uo us.length ucap W;unfold Pfx.v at TY;replace TY:=Xj TY;refine(callsIn_wide (n:=3)).1 ?_;refine callsIn_of_wp_marks func201 rfl trivial ?_ rfl;simp only[ntmps201,YH,XA,XZ,XM,D',Zx,Zy,ZS,ZD,Ya,X8];gi_wp2_with fail
 refine⟨trivial,?_⟩;refine(callsIn_wide.2 (a9.out _ (h.ext (aj (aw _ _) (aj (aw _ _) (aj (aw _ _) (aj (aw _ _) (aw _ _)))))))).mono ?_;rintro e w1 ⟨rfl,cl⟩;obtain⟨cm,cr⟩:=aJ cl;have cv:=br cl;(try simp only[Xr,aa,Xw,Xs]at cm cr cv)
 have l1:w.heap.size < w1.heap.size:=by omega
 have l2:w.heap.size+1 < w1.heap.size:=by omega
 gi_wp2_with fail
 refine⟨trivial,?_⟩;refine(callsIn_wide.2 (TY.out _)).mono ?_;rintro e w2 ⟨rfl,rfl⟩;have b0:po w1 w.heap.size #[.int .i64 root.at_,.int .i64 root.len,.slice uo us.length ucap] 151:=kz (ed (ed (ed (ed (kL _ (by simp)))))) cl;have b1:po w1 (w.heap.size+1) #[.int .i64 size] 3:=kz (ed (ed (ed (kL _ (by simp))))) cl;have b2:po w1 (w.heap.size+2) #[.int .i64 0,.int .i64 0] 32:=kz (ed (ed (kL _ (by simp)))) cl;have b3:po w1 (w.heap.size+3) #[.bool false] 4:=kz (ed (kL _ (by simp))) cl;have b4:po w1 (w.heap.size+4) #[.int .i64 0] 37:=kz (kL _ (by simp)) cl;have jb:decide (size < root.len)=false:=by simp;omega
 have j7:decide (16 < size)=false:=by simp;omega
 gi_wp2_with fail
 have lO:dA w1 ((w1.alloc (.cells #[.int .i64 root.at_,.int .i64 root.len] 32)).alloc (.cells #[.slice uo us.length ucap] 149)):=aj (aw _ _) (aw _ _);have D6:dA w w1:=aj (aj (aw _ _) (aj (aw _ _) (aj (aw _ _) (aj (aw _ _) (aw _ _))))) cl;have bR:16 - root.len=(((16 - root.len).toNat:Nat):Int):=by omega
 have He:root.right=true:=by
  unfold hU at A6;split at A6<;>(try split at A6)<;>simp_all[Pfx.right,bE]
 refine wpIn_rangeFunc_ownH rfl (by omega) (gf:=292) (lb:=#[.pointer (some ⟨w1.heap.size,0,none⟩),.pointer (some ⟨w1.heap.size+1,0,none⟩)]) rfl trivial (enters_of func292 (by kernel_rfl) rfl)
  (E0 KZ UR 2 w1.heap.size w1.heap.size (w1.heap.size+1) us uo ucap root _ bR He _ trivial (fun _ _ _ h=>h.elim) (fun _ _ _ _ _ h=>h) (fun _ _ _ _=>trivial) (by simp) (by simp) (by simp) ((((h.ext D6).inW).ext lO))) UQ (Ii (w:=((w1.alloc (.cells #[.int .i64 root.at_,.int .i64 root.len] 32)).alloc (.cells #[.slice uo us.length ucap] 149)))) (Below.refl _ _) (fun _=>rfl)
  (SW w w1 size) (SX w size) (CM w w1 size _ (by simp;omega)) (fun c=>K0 w size c _ (by simp;omega))
  ⟨⟨by simp,kz b1 lO,kz b2 lO,kz b3 lO,kz b4 lO,lO.size⟩,(aj D6 lO).mono (XB _)⟩
  (SY w w1 root uo us.length ucap size) (fun x a'=>by
   intro s X Y row h hg hr;obtain⟨Bx,h1,h2,h3⟩:=h;exact⟨Bx,h1,eN h2 hg (fun r e=>(hr r e).2),h3⟩) ?assign ?body ?done ?stop
 case assign=>
  intro l pre x W K hi hK;have hi':=hi;obtain⟨⟨-,-,-,-,-,cT⟩,hB⟩:=hi';unfold Pfx.v;gi_wp2
  refine hK _ _ ((KeepsOthers.alloc _ _).from _) (P1 (aw _ _)) (CM w w1 size w.heap.size (XB _) _ _ _ none hi (World.grownBy_alloc _ _ _) (fun r e=>by cases e)) ⟨W.heap.size,cT,yq _ _,rfl⟩
 case body=>
  rintro l pre x a' W hl ⟨r,hr⟩ hi ⟨Bx,hBx,bX,rfl⟩ hlt;obtain⟨⟨hp,c1,c2,c3,c4,cT⟩,hB⟩:=hi;have x0:=du (o:=0) bX rfl;have x1:=du (o:=1) bX rfl;have s0:=du (o:=0) c1 rfl;have p0:=du (o:=0) c2 rfl;have p1:=du (o:=1) c2 rfl;have q0:=du (o:=0) c3 rfl;have r0:=du (o:=0) c4 rfl;have f2:∀o,W.frozen? ⟨w.heap.size+2,o,none⟩=false:=fun o=>my c2;have f3:∀o,W.frozen? ⟨w.heap.size+3,o,none⟩=false:=fun o=>my c3;have f4:∀o,W.frozen? ⟨w.heap.size+4,o,none⟩=false:=fun o=>my c4;unfold K4;cases hx:decide (x.len≤size)
  ·have Hx:=Xj hx;gi_wp2
   exact⟨(KeepsOthers.refl _).from _,P1 (Below.refl _ _),⟨⟨fun y hy=>(X3.1 hy).elim (hp y) (fun e=>by simp at e;rw[e];exact Hx.out),c1,c2,c3,c4,cT⟩,hB⟩⟩
  ·have Hx:=Xj hx;gi_wp2
   refine⟨((((KeepsOthers.setCell _ _ _).trans (KeepsOthers.setCell _ _ _)).trans (KeepsOthers.setCell _ _ _)).trans (KeepsOthers.setCell _ _ _)).from _,⟨⟨rfl,pre,x,rfl,Hx.out,hp,?_,?_,?_⟩,?_⟩⟩
   ·exact dv (dv (lI (lI c2 _) _) (by omega) _) (by omega) _
   ·exact dv (lI (dv (dv c3 (by omega) _) (by omega) _) _) (by omega) _
   ·exact lI (dv (dv (dv c4 (by omega) _) (by omega) _) (by omega) _) _
   ·exact(((hB.setCell (p:=⟨w.heap.size+2,0,none⟩) (by simp) _).setCell (p:=⟨w.heap.size+2,1,none⟩) (by simp) _).setCell (p:=⟨w.heap.size+3,0,none⟩) (by simp) _).setCell (p:=⟨w.heap.size+4,0,none⟩) (by simp) _
 case done=>
  rintro D ys W hD rfl ⟨⟨bB,c1,c2,c3,c4,cT⟩,hB⟩ hK;have p0:=du (o:=0) c2 rfl;have p1:=du (o:=1) c2 rfl;have q0:=du (o:=0) c3 rfl;have r0:=du (o:=0) c4 rfl;have f2:∀o,W.frozen? ⟨w.heap.size+2,o,none⟩=false:=fun o=>my c2;have f3:∀o,W.frozen? ⟨w.heap.size+3,o,none⟩=false:=fun o=>my c3;have f4:∀o,W.frozen? ⟨w.heap.size+4,o,none⟩=false:=fun o=>my c4;have A3:lv root us size=(Pfx.zero,false,0):=by
   unfold lv;rw[if_pos A6,if_neg (by omega)];have:(iZ root us).find? (fun q=>decide (q.len≤size))=none:=by
    rw[Yq];intro q hq;rw[bB q hq];simp
   rw[this]
  replace A3:=Xj A3;replace bB:=Xj bB;have hK':=((((KeepsOthers.setCell W ⟨w.heap.size+2,0,none⟩ (.int .i64 0)).trans (KeepsOthers.setCell _ ⟨w.heap.size+2,1,none⟩ (.int .i64 0))).trans (KeepsOthers.setCell _ ⟨w.heap.size+3,0,none⟩ (.bool false))).trans (KeepsOthers.setCell _ ⟨w.heap.size+4,0,none⟩ (.int .i64 0))).same D _ hK rfl;have e2:=eN (dv (c:=w.heap.size+4) (o:=0) (dv (c:=w.heap.size+3) (o:=0) (lI (o:=1) (lI (o:=0) c2 (.int .i64 0)) (.int .i64 0)) (by omega) (.bool false)) (by omega) (.int .i64 0)) (grownBy_putObj' _ D (.deferred none)) (fun r e=>by cases e;exact⟨_,hK',rfl⟩);have e3:=eN (dv (c:=w.heap.size+4) (o:=0) (lI (o:=0) (dv (c:=w.heap.size+2) (o:=1) (dv (c:=w.heap.size+2) (o:=0) c3 (by omega) (.int .i64 0)) (by omega) (.int .i64 0)) (.bool false)) (by omega) (.int .i64 0)) (grownBy_putObj' _ D (.deferred none)) (fun r e=>by cases e;exact⟨_,hK',rfl⟩);have e4:=eN (lI (o:=0) (dv (c:=w.heap.size+3) (o:=0) (dv (c:=w.heap.size+2) (o:=1) (dv (c:=w.heap.size+2) (o:=0) c4 (by omega) (.int .i64 0)) (by omega) (.int .i64 0)) (by omega) (.bool false)) (.int .i64 0)) (grownBy_putObj' _ D (.deferred none)) (fun r e=>by cases e;exact⟨_,hK',rfl⟩);have Vr:=((((hB.setCell (p:=⟨w.heap.size+2,0,none⟩) (by simp) (.int .i64 0)).setCell (p:=⟨w.heap.size+2,1,none⟩) (by simp) (.int .i64 0)).setCell (p:=⟨w.heap.size+3,0,none⟩) (by simp) (.bool false)).setCell (p:=⟨w.heap.size+4,0,none⟩) (by simp) (.int .i64 0)).trans (belowK_b (w:=w) (XB _) _ D _ (.deferred none) (by simp at hD;omega) hK' rfl rfl);gi_wp2
  refine⟨by simp,.inl ⟨_,_,rfl,run_takeDeferred hK',?_⟩⟩;refine⟨.tuple #[Pfx.zero.v,.bool false,.int .i64 0],?_,by rw[A3.out],Vr⟩;have y0:=du (o:=0) e2 rfl;have y1:=du (o:=1) e2 rfl;have y2:=du (o:=0) e3 rfl;have y3:=du (o:=0) e4 rfl;unfold Pfx.zero Pfx.v;simp[results,f201,go_sem,y0,y1,y2,y3]
 case stop=>
  rintro D c pre W hD RQ ⟨⟨rfl,q,x,hq,hx,hn,c2,c3,c4⟩,hB⟩ hK;have A3:lv root us size=(⟨x.at_,size⟩,true,0):=by
   unfold lv;rw[if_pos A6,if_neg (by omega)];have:(iZ root us).find? (fun q=>decide (q.len≤size))=some x:=by
    obtain⟨r,hr⟩:=RQ;unfold iZ;rw[←hr,hq,X4,List.find?_append];have h1:q.find? (fun q=>decide (q.len≤size))=none:=by
     rw[Yq];intro y hy;rw[hn y hy];simp
    rw[h1];simp only[X8,List.find?_cons,hx,Option.none_or]
   rw[this]
  replace A3:=Xj A3;replace hn:=Xj hn;replace hq:=Xj hq;replace RQ:=Xj RQ;have e2:=eN c2 (grownBy_putObj' _ D (.deferred none)) (fun r e=>by cases e;exact⟨_,hK,rfl⟩);have e3:=eN c3 (grownBy_putObj' _ D (.deferred none)) (fun r e=>by cases e;exact⟨_,hK,rfl⟩);have e4:=eN c4 (grownBy_putObj' _ D (.deferred none)) (fun r e=>by cases e;exact⟨_,hK,rfl⟩);have Vr:=hB.trans (belowK_b (w:=w) (XB _) _ D _ (.deferred none) (by simp at hD;omega) hK rfl rfl);gi_wp2
  refine⟨by simp,.inl ⟨_,_,rfl,run_takeDeferred hK,?_⟩⟩;refine⟨.tuple #[Pfx.v ⟨x.at_,size⟩,.bool true,.int .i64 0],?_,by rw[A3.out],Vr⟩;have y0:=du (o:=0) e2 rfl;have y1:=du (o:=1) e2 rfl;have y2:=du (o:=0) e3 rfl;have y3:=du (o:=0) e4 rfl;unfold Pfx.v;simp[results,f201,go_sem,y0,y1,y2,y3]
theorem Ou {A:lW}(root:Pfx)(us:List Pfx)(uo:Option Addr)(ucap:Nat)(size:Int)(w:World)(h:Sl A w 2 cQ uo ucap us):
 Calls prog 201 #[.agg #[.int .i64 root.at_,.int .i64 root.len,.slice uo us.length ucap],.int .i64 size] w fun e w'=>
  e= .returned (.tuple #[(lv root us size).1.v,.bool (lv root us size).2.1,.int .i64 (lv root us size).2.2])∧dA w w':=by
 by_cases h0:hU root us=0
 ·by_cases h1:root.len≤size∧size≤16
  ·exact K5 root us uo ucap size w h h0 h1.1 h1.2
  ·have hf:lv root us size=(Pfx.zero,false,3):=by unfold lv;rw[if_pos h0,if_pos (by omega)]
   rw[hf];have a9:=fun W (h:Sl A W 2 cQ uo ucap us)=>iY root us uo ucap W h;rw[h0]at a9;replace a9:=Xj a9;clear hf h0;unfold Pfx.zero Pfx.v;by_cases h2:size < root.len
   ·have jb:decide (size < root.len)=true:=by simp[h2]
    clear h1;go_enter func201,ntmps201
    go_wp2_with fail
    refine(a9.out _ (h.ext (aj (aw _ _) (aj (aw _ _) (aj (aw _ _) (aj (aw _ _) (aw _ _))))))).mono ?_;rintro e w1 ⟨rfl,cl⟩;obtain⟨cm,cr⟩:=aJ cl;have cv:=br cl;(try simp only[Xr,aa,Xw,Xs]at cm cr cv)
    go_wp2_with fail
    refine bodyPost_ret ?_ rfl ⟨rfl,Bel.bel (B:=_) ?_⟩
    ·simp[results,results201,go_sem,cm]
    ·(repeat(first|with_reducible assumption|with_reducible exact Bel.refl _|with_reducible refine Bel.alloc ?_ _|with_reducible refine Bel.drewN ?_ _|with_reducible refine Bel.drew ?_|(with_reducible refine Bel.setCell0 ?_ ?_ _;rotate_left;(first|omega|(simp;done)|(simp;omega)))|(with_reducible refine Bel.setCell ?_ (p:=_) ?_ _;rotate_left;(first|(simp;done)|omega|(simp;omega)))|refine Bel.call ?_ (by assumption)|(refine EX.bel ?_ (by assumption) ?_;rotate_left;(first|omega|(simp;omega)))))
   ·have jb:decide (size < root.len)=false:=by simp[h2]
    have j7:decide (16 < size)=true:=by simp;omega
    clear h1;go_enter func201,ntmps201
    go_wp2_with fail
    refine(a9.out _ (h.ext (aj (aw _ _) (aj (aw _ _) (aj (aw _ _) (aj (aw _ _) (aw _ _))))))).mono ?_;rintro e w1 ⟨rfl,cl⟩;obtain⟨cm,cr⟩:=aJ cl;have cv:=br cl;(try simp only[Xr,aa,Xw,Xs]at cm cr cv)
    go_wp2_with fail
    refine bodyPost_ret ?_ rfl ⟨rfl,Bel.bel (B:=_) ?_⟩
    ·simp[results,results201,go_sem,cm]
    ·(repeat(first|with_reducible assumption|with_reducible exact Bel.refl _|with_reducible refine Bel.alloc ?_ _|with_reducible refine Bel.drewN ?_ _|with_reducible refine Bel.drew ?_|(with_reducible refine Bel.setCell0 ?_ ?_ _;rotate_left;(first|omega|(simp;done)|(simp;omega)))|(with_reducible refine Bel.setCell ?_ (p:=_) ?_ _;rotate_left;(first|(simp;done)|omega|(simp;omega)))|refine Bel.call ?_ (by assumption)|(refine EX.bel ?_ (by assumption) ?_;rotate_left;(first|omega|(simp;omega)))))
 ·have hf:lv root us size=(Pfx.zero,false,hU root us):=by unfold lv;rw[if_neg h0]
  rw[hf];have a9:=fun W (h:Sl A W 2 cQ uo ucap us)=>iY root us uo ucap W h;obtain⟨c,hc⟩:∃c,c=hU root us:=⟨_,rfl⟩;rw[←hc]at a9 h0 ⊢;have bB:(c !=0)=true:=by simpa using h0
  replace a9:=Xj a9;clear hf h0 hc;unfold Pfx.zero Pfx.v;go_enter func201,ntmps201
  go_wp2_with fail
  refine(a9.out _ (h.ext (aj (aw _ _) (aj (aw _ _) (aj (aw _ _) (aj (aw _ _) (aw _ _))))))).mono ?_;rintro e w1 ⟨rfl,cl⟩;obtain⟨cm,cr⟩:=aJ cl;have cv:=br cl;(try simp only[Xr,aa,Xw,Xs]at cm cr cv)
  go_wp2_with fail
  refine bodyPost_ret ?_ rfl ⟨rfl,Bel.bel (B:=_) ?_⟩
  ·simp[results,results201,go_sem,cm]
  ·(repeat(first|with_reducible assumption|with_reducible exact Bel.refl _|with_reducible refine Bel.alloc ?_ _|with_reducible refine Bel.drewN ?_ _|with_reducible refine Bel.drew ?_|(with_reducible refine Bel.setCell0 ?_ ?_ _;rotate_left;(first|omega|(simp;done)|(simp;omega)))|(with_reducible refine Bel.setCell ?_ (p:=_) ?_ _;rotate_left;(first|(simp;done)|omega|(simp;omega)))|refine Bel.call ?_ (by assumption)|(refine EX.bel ?_ (by assumption) ?_;rotate_left;(first|omega|(simp;omega)))))
end
section
open Go.Proofs
def mz (q p:Pfx):Bool:=nx q.at_ q.len p.at_ p.len
def zg (p q:Pfx):Bool:=xL p.at_ p.len q.at_ q.len
theorem xM {A:lW}(root:Pfx)(us:List Pfx)(uo:Option Addr)(ucap:Nat)(p:Pfx)(w:World)(h:Sl A w 2 cQ uo ucap us):
 Calls prog 290 #[.agg #[.int .i64 root.at_,.int .i64 root.len,.slice uo us.length ucap],.agg #[.int .i64 p.at_,.int .i64 p.len]] w fun e w'=>e= .returned (.bool (us.any fun q=>mz q p))∧dA w w':=by
 have fV:=h.cap_le;have Jw:=h.cap_max;obtain⟨r,hr⟩:∃r,r=us.any fun q=>mz q p:=⟨_,rfl⟩;rw[←hr];replace hr:=Xj hr;go_enter func290,ntmps290
 go_wp2_with fail
 go_loopw [5] (fun s5 wr=>∃k:Nat,k≤us.length∧s5= .int .i64 k∧Hid (∀j (h:j < k) (h':j < us.length),mz us[j] p=false)∧dA ((w.alloc (.cells #[.int .i64 root.at_,.int .i64 root.len,.slice uo us.length ucap] 151)).alloc (.cells #[.int .i64 p.at_,.int .i64 p.len] 32)) wr) (fun s5 _=>us.length - (intOf s5).toNat)
 case atStart=>exact⟨0,XE _,rfl,Xj (fun j hj=>absurd hj (YJ _)),Below.refl _ _⟩
 case round=>
  obtain⟨k,hk,rfl,bP,hx⟩:=hrel;have D6:=aj (aj (aw _ _) (aw _ _)) hx;obtain⟨RP,FH⟩:=aJ hx;have TX:=br hx;(try simp only[Xr,aa,Xw,Xs]at RP FH TX)
  have lr:w.heap.size < wr.heap.size:=by omega
  have lr1:w.heap.size+1 < wr.heap.size:=by omega
  by_cases hlt:k < us.length
  ·have ew:(k:Int) < (us.length:Int):=by omega
   obtain⟨b,off,cs,rfl,-,bR,hR,fq⟩:=h.elem k hlt;replace fq:=eM D6 fq;unfold cQ at hR;subst hR;obtain⟨k0,k1⟩:=ju fq;have lb:=dF k0;obtain⟨y,hy⟩:∃y,y=us[k]:=⟨_,rfl⟩;rw[←hy]at k0 k1;replace hy:=Xj hy;have hm:=qY y.at_ y.len p.at_ p.len;obtain⟨q,hq⟩:∃q,q=mz y p:=⟨_,rfl⟩;unfold mz at hq;rw[←hq]at hm;replace hq:=Xj hq;replace hm:=Xj hm;clear fq h;cases q
   case true=>
    go_wp2_with fail
    refine b8 (by kernel_rfl) (by kernel_rfl) (fun _ _ d _ _ h=>by cases d<;>exact h) ?_;repeat(first|((first|refine bs rfl rfl rfl (by with_reducible rfl) ?_|refine bt rfl rfl rfl (by with_reducible rfl) ?_|refine bu rfl rfl rfl (by with_reducible rfl) ?_);simp only[Act.put,Xp,Xu,Xx])|(apply ci;(first|exact bx rfl|exact bD rfl rfl rfl (by with_reducible rfl));intro wq cO R hR;((have ei:=(aJ cO).1;(try simp only[Xr,aa,Xw,Xs]at ei));go_simp;first|exact hR|((go_at_call 106;exact iE (hm.out _) hR)));simp only[Act.put,Xp,Xu,Xx]))
    refine dL ?_;intro w2 cD;obtain⟨dQ,dD⟩:=aJ cD;have dR:=br cD;(try simp only[Xr,aa,Xw,Xs]at dQ dD dR)
    go_wp2_with fail
    go_ret
    exact⟨dn (by rw[hr.out,XU.2 ⟨us[k],Ym hlt,by rw[←hy.out];exact hq.out.symm⟩]),aj D6 cD⟩
   case false=>
    go_wp2_with fail
    refine b8 (by kernel_rfl) (by kernel_rfl) (fun _ _ d _ _ h=>by cases d<;>exact h) ?_;repeat(first|((first|refine bs rfl rfl rfl (by with_reducible rfl) ?_|refine bt rfl rfl rfl (by with_reducible rfl) ?_|refine bu rfl rfl rfl (by with_reducible rfl) ?_);simp only[Act.put,Xp,Xu,Xx])|(apply ci;(first|exact bx rfl|exact bD rfl rfl rfl (by with_reducible rfl));intro wq cO R hR;((have ei:=(aJ cO).1;(try simp only[Xr,aa,Xw,Xs]at ei));go_simp;first|exact hR|((go_at_call 106;exact iE (hm.out _) hR)));simp only[Act.put,Xp,Xu,Xx]))
    refine dL ?_;intro w2 cD;obtain⟨dQ,dD⟩:=aJ cD;have dR:=br cD;(try simp only[Xr,aa,Xw,Xs]at dQ dD dR)
    go_wp2_with fail
    go_roundw
    case rel=>exact⟨k+1,by omega,by go_num,Xj (fun j hj hj'=>by
     rcases G' (Q' hj)with h1|h1
     ·exact bP.out j h1 hj'
     ·subst h1;rw[←hy.out];exact hq.out.symm),aj hx cD⟩
    case measure=>simp[intOf];omega
  ·have ew:¬(k:Int) < (us.length:Int):=by omega
   obtain rfl:k=us.length:=by omega
   go_wp2_with fail
   go_ret
   exact⟨dn (by
    rw[hr.out,Yh.2 (fun x hx=>?_)];obtain⟨j,hj,rfl⟩:=X0.1 hx;rw[bP.out j hj hj];simp),D6⟩
def gk (root:Pfx):Option Pfx→List Pfx→Bool
 |_,[]=>true
 |none,p::ps=>zg p root&&gk root (some p) ps
 |some q,p::ps=>zg p root&&(!(decide (p.at_≤q.at_)||mz q p)&&gk root (some p) ps)
theorem vW (root p:Pfx)(ps:List Pfx):gk root none (p::ps)=(zg p root&&gk root (some p) ps):=rfl
theorem vX (root q p:Pfx)(ps:List Pfx):gk root (some q) (p::ps)=(zg p root&&(!(decide (p.at_≤q.at_)||mz q p)&&gk root (some p) ps)):=rfl
theorem Ij (root:Pfx)(q:Option Pfx):gk root q []=true:=by cases q<;>rfl
def rm (root:Pfx)(us:List Pfx):Int:=if us.length>32 then 2 else if bE root.at_ root.len then (if gk root none us then 0 else 1)else 1
def qb (us:List Pfx)(k:Nat):Option Pfx:=if k=0 then none else us[k - 1]?
theorem vY {A:lW}(root:Pfx)(us:List Pfx)(uo:Option Addr)(ucap:Nat)(w:World)(h:Sl A w 2 cQ uo ucap us):
 Calls prog 101 #[.agg #[.int .i64 root.at_,.int .i64 root.len,.slice uo us.length ucap]] w fun e w'=>e= .returned (.int .i64 (rm root us))∧dA w w':=by
 have fV:=h.cap_le;have Jw:=h.cap_max;have G5:=d4 root.at_ root.len;by_cases fB:us.length>32
 ·have hr:rm root us=2:=by unfold rm;rw[if_pos fB]
  rw[hr];have hI:(32:Int) < (us.length:Int):=by omega
  clear hr fB G5;go_enter func101,ntmps101
  go_wp2_with fail
  go_ret
  refine⟨rfl,Bel.bel (B:=_) ?_⟩;(repeat(first|with_reducible assumption|with_reducible exact Bel.refl _|with_reducible refine Bel.alloc ?_ _|with_reducible refine Bel.drewN ?_ _|with_reducible refine Bel.drew ?_|(with_reducible refine Bel.setCell0 ?_ ?_ _;rotate_left;(first|omega|(simp;done)|(simp;omega)))|(with_reducible refine Bel.setCell ?_ (p:=_) ?_ _;rotate_left;(first|(simp;done)|omega|(simp;omega)))|refine Bel.call ?_ (by assumption)|(refine EX.bel ?_ (by assumption) ?_;rotate_left;(first|omega|(simp;omega)))))
 ·have hI:(us.length:Int)≤32:=by omega
  cases hR:bE root.at_ root.len
  case false=>
   have hr:rm root us=1:=by unfold rm;rw[if_neg fB,hR];rfl
   rw[hr];rw[hR]at G5;replace G5:=Xj G5;clear hr fB hR;go_enter func101,ntmps101
   go_wp2_with fail
   refine(G5.out _).mono ?_;rintro e w1 ⟨rfl,cl⟩;obtain⟨cm,cr⟩:=aJ cl;have cv:=br cl;(try simp only[Xr,aa,Xw,Xs]at cm cr cv)
   go_wp2_with fail
   go_ret
   refine⟨rfl,Bel.bel (B:=_) ?_⟩;(repeat(first|with_reducible assumption|with_reducible exact Bel.refl _|with_reducible refine Bel.alloc ?_ _|with_reducible refine Bel.drewN ?_ _|with_reducible refine Bel.drew ?_|(with_reducible refine Bel.setCell0 ?_ ?_ _;rotate_left;(first|omega|(simp;done)|(simp;omega)))|(with_reducible refine Bel.setCell ?_ (p:=_) ?_ _;rotate_left;(first|(simp;done)|omega|(simp;omega)))|refine Bel.call ?_ (by assumption)|(refine EX.bel ?_ (by assumption) ?_;rotate_left;(first|omega|(simp;omega)))))
  case true=>
   obtain⟨r,hr⟩:∃r,r=rm root us:=⟨_,rfl⟩;rw[←hr];have ki:r=if gk root none us then 0 else 1:=by rw[hr];unfold rm;rw[if_neg fB,hR];rfl
   rw[hR]at G5;replace G5:=Xj G5;clear hr fB hR;replace hr:=Xj ki;clear ki;go_enter func101,ntmps101
   go_wp2_with fail
   refine(G5.out _).mono ?_;rintro e w1 ⟨rfl,cl⟩;obtain⟨cm,cr⟩:=aJ cl;have cv:=br cl;(try simp only[Xr,aa,Xw,Xs]at cm cr cv)
   have nr:=aj (aw _ _) cl;have l1:w.heap.size < w1.heap.size:=by omega
   go_wp2_with fail
   go_loopw [3] (fun s3 wr=>∃(k:Nat),k≤us.length∧s3= .int .i64 k∧Hid (gk root none us=gk root (qb us k) (us.drop k))∧dA w1 wr) (fun s3 _=>us.length - (intOf s3).toNat)
   case atStart=>exact⟨0,XE _,rfl,Xj rfl,Below.refl _ _⟩
   case round=>
    obtain⟨k,hk,rfl,hu,hx⟩:=hrel;have D6:=aj nr hx;obtain⟨RP,FH⟩:=aJ hx;have TX:=br hx;have lr:w.heap.size < wr.heap.size:=by omega
    by_cases hlt:k < us.length
    ·have ew:(k:Int) < (us.length:Int):=by omega
     have D5:us.drop k=us[k]::us.drop (k+1):=YQ hlt;have D7:qb us (k+1)=some us[k]:=by unfold qb;rw[if_neg (by omega)];simp[Xk hlt]
     rw[D5]at hu;clear D5;obtain⟨b,off,cs,Vs,-,bR,WO,fq⟩:=h.elem k hlt;replace fq:=eM D6 fq;unfold cQ at WO;subst WO;obtain⟨k0,k1⟩:=ju fq;have lb:=dF k0;obtain⟨p,hp⟩:∃p,p=us[k]:=⟨_,rfl⟩;rw[←hp]at k0 k1 hu D7;replace D7:=Xj D7;clear fq hp;have dE:=qX p.at_ p.len root.at_ root.len;obtain⟨q,hq⟩:∃q,q=xL p.at_ p.len root.at_ root.len:=⟨_,rfl⟩;rw[←hq]at dE;match k,hk,hlt with
     |0,hk,hlt=>
      have xt:gk root none us=(q&&gk root (some p) (us.drop 1)):=by rw[hu.out];show gk root none (p::us.drop 1)=_;rw[vW,hq];rfl
      clear hu hq h;subst Vs;rw[Nat.zero_mul,XW]at k0 k1;replace dE:=Xj dE;cases q
      case false=>
       have gh:r=1:=by rw[hr.out,xt];rfl
       replace gh:=Xj gh;clear xt hr;go_wp2_with fail
       refine b8 (by kernel_rfl) (by kernel_rfl) (fun _ _ d _ _ h=>by cases d<;>exact h) ?_;repeat(first|((first|refine bs rfl rfl rfl (by with_reducible rfl) ?_|refine bt rfl rfl rfl (by with_reducible rfl) ?_|refine bu rfl rfl rfl (by with_reducible rfl) ?_);simp only[Act.put,Xp,Xu,Xx])|(apply ci;(first|exact bx rfl|exact bD rfl rfl rfl (by with_reducible rfl));intro wq cO R hR;((have ei:=(aJ cO).1;(try simp only[Xr,aa,Xw,Xs]at ei));go_simp;first|exact hR|((go_at_call 169;exact iE (dE.out _) hR)));simp only[Act.put,Xp,Xu,Xx]))
       refine dL ?_;intro w2 cD;obtain⟨dQ,dD⟩:=aJ cD;have dR:=br cD;(try simp only[Xr,aa,Xw,Xs]at dQ dD dR)
       go_wp2_with fail
       go_ret
       exact⟨cf gh.out.symm,aj D6 cD⟩
      case true=>
       have MX:gk root none us=gk root (qb us (0+1)) (us.drop (0+1)):=by rw[xt,D7.out];rfl
       replace MX:=Xj MX;clear xt;go_wp2_with fail
       refine b8 (by kernel_rfl) (by kernel_rfl) (fun _ _ d _ _ h=>by cases d<;>exact h) ?_;repeat(first|((first|refine bs rfl rfl rfl (by with_reducible rfl) ?_|refine bt rfl rfl rfl (by with_reducible rfl) ?_|refine bu rfl rfl rfl (by with_reducible rfl) ?_);simp only[Act.put,Xp,Xu,Xx])|(apply ci;(first|exact bx rfl|exact bD rfl rfl rfl (by with_reducible rfl));intro wq cO R hR;((have ei:=(aJ cO).1;(try simp only[Xr,aa,Xw,Xs]at ei));go_simp;first|exact hR|((go_at_call 169;exact iE (dE.out _) hR)));simp only[Act.put,Xp,Xu,Xx]))
       refine dL ?_;intro w2 cD;obtain⟨dQ,dD⟩:=aJ cD;have dR:=br cD;(try simp only[Xr,aa,Xw,Xs]at dQ dD dR)
       go_wp2_with fail
       go_roundw
       case rel=>exact⟨0+1,by omega,by go_num,MX,aj hx cD⟩
       case measure=>simp[intOf];try omega
     |j+1,hk,hlt=>
      have MJ:j < us.length:=by omega
      obtain⟨b',off',cs',TZ,-,WP,T0,yk⟩:=h.elem j MJ;rw[Vs]at TZ;cases TZ;replace yk:=eM D6 yk;unfold cQ at T0;subst T0;obtain⟨m0,m1⟩:=ju yk;have WQ:qb us (j+1)=some us[j]:=by unfold qb;rw[if_neg (by omega)];simp[Xk MJ]
      rw[WQ]at hu;obtain⟨y,hy⟩:∃y,y=us[j]:=⟨_,rfl⟩;rw[←hy]at m0 m1 hu;clear WQ hy yk h;subst Vs;have Nx:=qY y.at_ y.len p.at_ p.len;obtain⟨t,ht⟩:∃t,t=mz y p:=⟨_,rfl⟩;have xt:gk root none us=(q&&(!(decide (p.at_≤y.at_)||t)&&gk root (some p) (us.drop (j+1+1)))):=by rw[hu.out,vX,hq,ht];rfl
      unfold mz at ht;rw[←ht]at Nx;clear hu ht hq;replace dE:=Xj dE;replace Nx:=Xj Nx;have kj:IntKind.i64.wrap (j:Int)=(j:Int):=IntWalk.i64_in _ (by omega);have a0b:IntKind.i64.wrap ((j:Int)+1 - 1)=(j:Int):=by rw[show ((j:Int)+1 - 1)=j from by omega];exact kj
      have RC:(0:Int)≤(j:Int):=by omega
      have WR:(0:Int) < (j:Int)+1:=by omega
      have WS:(j:Int) < (us.length:Int):=by omega
      have WT:(j:Int)+1 < (us.length:Int):=by omega
      have htn:((j:Int)+1).toNat=j+1:=by omega
      have St:(0:Int)≤(j:Int)+1:=by omega
      clear ew;cases q
      case false=>
       have gh:r=1:=by rw[hr.out,xt];rfl
       replace gh:=Xj gh;clear xt hr;go_wp2_with fail
       refine b8 (by kernel_rfl) (by kernel_rfl) (fun _ _ d _ _ h=>by cases d<;>exact h) ?_;repeat(first|((first|refine bs rfl rfl rfl (by with_reducible rfl) ?_|refine bt rfl rfl rfl (by with_reducible rfl) ?_|refine bu rfl rfl rfl (by with_reducible rfl) ?_);simp only[Act.put,Xp,Xu,Xx])|(apply ci;(first|exact bx rfl|exact bD rfl rfl rfl (by with_reducible rfl));intro wq cO R hR;((have ei:=(aJ cO).1;(try simp only[Xr,aa,Xw,Xs]at ei));go_simp;first|exact hR|((go_at_call 169;exact iE (dE.out _) hR)));simp only[Act.put,Xp,Xu,Xx]))
       refine dL ?_;intro w2 cD;obtain⟨dQ,dD⟩:=aJ cD;have dR:=br cD;(try simp only[Xr,aa,Xw,Xs]at dQ dD dR)
       go_wp2_with fail
       go_ret
       exact⟨cf gh.out.symm,aj D6 cD⟩
      case true=>
       by_cases hge:p.at_≤y.at_
       ·have gh:r=1:=by rw[hr.out,xt];simp[hge]
        replace gh:=Xj gh;clear xt hr;go_wp2_with fail
        refine b8 (by kernel_rfl) (by kernel_rfl) (fun _ _ d _ _ h=>by cases d<;>exact h) ?_;repeat(first|((first|refine bs rfl rfl rfl (by with_reducible rfl) ?_|refine bt rfl rfl rfl (by with_reducible rfl) ?_|refine bu rfl rfl rfl (by with_reducible rfl) ?_);simp only[Act.put,Xp,Xu,Xx])|(apply ci;(first|exact bx rfl|exact bD rfl rfl rfl (by with_reducible rfl));intro wq cO R hR;((have ei:=(aJ cO).1;(try simp only[Xr,aa,Xw,Xs]at ei));go_simp;first|exact hR|((go_at_call 169;exact iE (dE.out _) hR)));simp only[Act.put,Xp,Xu,Xx]))
        refine dL ?_;intro w2 cD;obtain⟨dQ,dD⟩:=aJ cD;have dR:=br cD;(try simp only[Xr,aa,Xw,Xs]at dQ dD dR)
        go_wp2_with fail
        go_ret
        exact⟨cf gh.out.symm,aj D6 cD⟩
       ·have Vt:decide (p.at_≤y.at_)=false:=by simp[hge]
        cases t
        case true=>
         have gh:r=1:=by rw[hr.out,xt];simp
         replace gh:=Xj gh;clear xt hr;go_wp2_with fail
         refine b8 (by kernel_rfl) (by kernel_rfl) (fun _ _ d _ _ h=>by cases d<;>exact h) ?_;repeat(first|((first|refine bs rfl rfl rfl (by with_reducible rfl) ?_|refine bt rfl rfl rfl (by with_reducible rfl) ?_|refine bu rfl rfl rfl (by with_reducible rfl) ?_);simp only[Act.put,Xp,Xu,Xx])|(apply ci;(first|exact bx rfl|exact bD rfl rfl rfl (by with_reducible rfl));intro wq cO R hR;((have ei:=(aJ cO).1;(try simp only[Xr,aa,Xw,Xs]at ei));go_simp;first|exact hR|(first|(go_at_call 169;exact iE (dE.out _) hR)|(go_at_call 106;exact iE (Nx.out _) hR)));simp only[Act.put,Xp,Xu,Xx]))
         refine dL ?_;intro w2 cD;obtain⟨dQ,dD⟩:=aJ cD;have dR:=br cD;(try simp only[Xr,aa,Xw,Xs]at dQ dD dR)
         go_wp2_with fail
         go_ret
         exact⟨cf gh.out.symm,aj D6 cD⟩
        case false=>
         have MX:gk root none us=gk root (qb us (j+1+1)) (us.drop (j+1+1)):=by rw[xt,D7.out,Vt];rfl
         replace MX:=Xj MX;clear xt;go_wp2_with fail
         refine b8 (by kernel_rfl) (by kernel_rfl) (fun _ _ d _ _ h=>by cases d<;>exact h) ?_;repeat(first|((first|refine bs rfl rfl rfl (by with_reducible rfl) ?_|refine bt rfl rfl rfl (by with_reducible rfl) ?_|refine bu rfl rfl rfl (by with_reducible rfl) ?_);simp only[Act.put,Xp,Xu,Xx])|(apply ci;(first|exact bx rfl|exact bD rfl rfl rfl (by with_reducible rfl));intro wq cO R hR;((have ei:=(aJ cO).1;(try simp only[Xr,aa,Xw,Xs]at ei));go_simp;first|exact hR|(first|(go_at_call 169;exact iE (dE.out _) hR)|(go_at_call 106;exact iE (Nx.out _) hR)));simp only[Act.put,Xp,Xu,Xx]))
         refine dL ?_;intro w2 cD;obtain⟨dQ,dD⟩:=aJ cD;have dR:=br cD;(try simp only[Xr,aa,Xw,Xs]at dQ dD dR)
         go_wp2_with fail
         go_roundw
         case rel=>exact⟨j+1+1,by omega,by go_num,MX,aj hx cD⟩
         case measure=>simp[intOf];omega
    ·have ew:¬(k:Int) < (us.length:Int):=by omega
     obtain rfl:k=us.length:=by omega
     have gh:r=0:=by rw[hr.out,hu.out,Y7,Ij];rfl
     replace gh:=Xj gh;clear hr hu;go_wp2_with fail
     go_ret
     exact⟨cf gh.out.symm,D6⟩
end
section
open Go.Proofs
def tJ (a b:Pfx):Prop:=a.hi≤b.at_
theorem m7 (root:Pfx):∀(us:List Pfx) (f:Int),iX root f us=true↔(∀u∈us,dO u root=true)∧(∀u∈us,f≤u.at_)∧us.Pairwise tJ
 |[],f=>by simp[iX]
 |p::ps,f=>by
  rw[tI,Xy,Xy,decide_eq_true_eq,m7 root ps,YC];constructor
  ·intro⟨h1,h2,h3,h4,h5⟩;have hp:=p.hi_bd (cA.1 h1).1;refine⟨?_,?_,⟨fun u hu=>h4 u hu,h5⟩⟩
   ·intro u hu;rcases X7.1 hu with rfl|hu
    ·exact h1
    ·exact h3 u hu
   ·intro u hu;rcases X7.1 hu with rfl|hu
    ·exact h2
    ·have:=h4 u hu;unfold Pfx.hi at hp;omega
  ·intro⟨h1,h2,h3,h4⟩;exact⟨h1 p (by simp),h2 p (by simp),fun u hu=>h1 u (by simp[hu]),fun u hu=>h3 u hu,h4⟩
theorem o3 (root:Pfx):∀(us:List Pfx) (q:Pfx),q.right=true→(gk root (some q) us=true↔(∀u∈us,dO u root=true)∧(∀u∈us,q.hi≤u.at_)∧us.Pairwise tJ)
 |[],q,_=>by simp[gk]
 |p::ps,q,hq=>by
  have hqb:=q.hi_bd hq;rw[vX,Xy,Xy,YC];have e1:zg p root=dO p root:=uB p root;rw[e1];constructor
  ·intro⟨h1,h2,h3⟩;have Hf:=(cA.1 h1).1;have hp:=p.hi_bd Hf;rw[o3 root ps p Hf]at h3;obtain⟨g1,g2,g3⟩:=h3;have h4:q.hi≤p.at_:=by
    simp only[Zz,Zm,decide_eq_false_iff_not]at h2;obtain⟨k1,k2⟩:=h2;have k3:¬q.meets p=true:=by rw[←fg];unfold mz at k2;rw[k2];simp
    rw[dU]at k3;rcases z' p.at_ q.hi with h|h
    ·exact absurd ⟨hq,Hf,by omega,h⟩ k3
    ·exact h
   refine⟨?_,?_,⟨fun u hu=>g2 u hu,g3⟩⟩
   ·intro u hu;rcases X7.1 hu with rfl|hu
    ·exact h1
    ·exact g1 u hu
   ·intro u hu;rcases X7.1 hu with rfl|hu
    ·exact h4
    ·have:=g2 u hu;omega
  ·intro⟨h1,h2,h3,h4⟩;have xe:=h1 p (by simp);have Hf:=(cA.1 xe).1;have hqp:=h2 p (by simp);refine⟨xe,?_,(o3 root ps p Hf).2 ⟨fun u hu=>h1 u (by simp[hu]),fun u hu=>h3 u hu,h4⟩⟩;simp only[Zz,Zm,decide_eq_false_iff_not];refine⟨by omega,?_⟩;unfold mz;rw[fg,YE];intro h;have:=(dU.1 h).2.2;omega
theorem Ov (root:Pfx)(us:List Pfx):gk root none us=iX root root.at_ us:=by
 rw[Yi,m7];cases us with
 |nil=>simp[gk]
 |cons p ps=>
  rw[vW,Xy,YC];have e1:zg p root=dO p root:=uB p root;rw[e1];constructor
  ·intro⟨h1,h2⟩;obtain⟨k1,k2,k3,k4⟩:=cA.1 h1;have hp:=p.hi_bd k1;rw[o3 root ps p k1]at h2;obtain⟨g1,g2,g3⟩:=h2;refine⟨?_,?_,⟨fun u hu=>g2 u hu,g3⟩⟩
   ·intro u hu;rcases X7.1 hu with rfl|hu
    ·exact h1
    ·exact g1 u hu
   ·intro u hu;rcases X7.1 hu with rfl|hu
    ·exact k3
    ·have:=g2 u hu;omega
  ·intro⟨h1,h2,h3,h4⟩;have xe:=h1 p (by simp);exact⟨xe,(o3 root ps p (cA.1 xe).1).2 ⟨fun u hu=>h1 u (by simp[hu]),fun u hu=>h3 u hu,h4⟩⟩
theorem Ow (root:Pfx)(us:List Pfx):rm root us=hU root us:=by
 unfold rm hU;rw[Ov];by_cases h:us.length>32
 ·rw[if_pos h,if_pos h]
 ·rw[if_neg h,if_neg h];unfold bE;by_cases h2:chk root.at_ root.len=0
  ·simp[h2]
  ·simp[h2]
structure SpaceOK (root:Pfx)(us:List Pfx):Prop where
 rr:root.right=true
 many:us.length≤32
 ins:∀u∈us,dO u root=true
 apart:us.Pairwise tJ
theorem rn {root:Pfx}{us:List Pfx}:hU root us=0↔SpaceOK root us:=by
 unfold hU;constructor
 ·intro h;split at h
  ·omega
  ·rename_i h1;split at h
   ·rename_i h2;split at h
    ·rename_i h3;obtain⟨g1,g2,g3⟩:=(m7 root us _).1 h3;exact⟨by simp[Pfx.right,bE,h2],by omega,g1,g3⟩
    ·omega
   ·omega
 ·intro⟨h1,h2,h3,h4⟩;have hc:chk root.at_ root.len=0:=by unfold Pfx.right bE at h1;simpa using h1
  rw[if_neg (by omega),if_pos hc,if_pos ((m7 root us _).2 ⟨h3,fun u hu=>(cA.1 (h3 u hu)).2.2.1,h4⟩)]
end
section
open Go.Proofs
def i4 (us:List Pfx)(p:Pfx):Bool:=!us.any p.meets
theorem uD {p:Pfx}(h:p.right=true)(hl:p.len < 16):p.low.at_=p.at_∧p.low.hi=p.high.at_∧p.high.hi=p.hi∧p.at_ < p.high.at_∧p.high.at_ < p.hi:=by
 obtain⟨g1,-⟩:=p.bd h;have e:=rc g1 hl;have s1:=fd (n:=p.len+1) (by omega);unfold Pfx.low Pfx.high Pfx.hi;refine⟨rfl,rfl,?_,?_,?_⟩<;>simp<;>omega
theorem m8 {a b c:Pfx}(h:dO a b=true)(k:dO b c=true):dO a c=true:=by
 rw[cA]at*;exact⟨h.1,k.2.1,by omega,by omega⟩
theorem K6 {b p:Pfx}(h:dO b p=true)(hl:p.len < b.len):dO b p.low=true∨dO b p.high=true:=by
 obtain⟨k1,k2,k3,k4⟩:=cA.1 h;obtain⟨b1,b2,-⟩:=b.bd k1;have RR:p.len < 16:=by omega
 obtain⟨e1,e2,e3,e4,e5⟩:=uD k2 RR;have hb:=b.hi_bd k1;rcases z' b.at_ p.high.at_ with hlt|hle
 ·left;rw[fe];exact⟨k1,jv k2 RR,by simp[Pfx.low];omega,by rw[e1];exact k3,by rw[e2];exact hlt⟩
 ·right;rw[fe];exact⟨k1,ir k2 RR,by simp[Pfx.high];omega,hle,by rw[e3];omega⟩
theorem K7 {p:Pfx}(h:p.right=true)(hl:p.len < 16):dO p.low p=true:=by
 obtain⟨e1,e2,e3,e4,e5⟩:=uD h hl;exact cA.2 ⟨jv h hl,h,by omega,by omega⟩
theorem Ik {p:Pfx}(h:p.right=true)(hl:p.len < 16):dO p.high p=true:=by
 obtain⟨e1,e2,e3,e4,e5⟩:=uD h hl;exact cA.2 ⟨ir h hl,h,by omega,by omega⟩
theorem zh {p:Pfx}(h:p.right=true):dO p p=true:=cA.2 ⟨h,h,by omega,by omega⟩
theorem oz (us:List Pfx):∀(n:Nat) (p:Pfx),16 - p.len=(n:Int)→p.right=true→∀q∈dt us n p,dO q p=true∧i4 us q=true
 |0,p,hn,hr,q,hq=>by
  unfold dt at hq;split at hq
  ·cases hq
  ·rename_i h;obtain rfl:q=p:=by simpa using hq
   exact⟨zh hr,by unfold i4;simpa using h⟩
 |n+1,p,hn,hr,q,hq=>by
  unfold dt at hq;split at hq
  ·split at hq
   ·cases hq
   ·have hl:p.len < 16:=by omega
    rcases X3.1 hq with h|h
    ·have:=oz us n p.low (by simp[Pfx.low];omega) (jv hr hl) q h;exact⟨m8 this.1 (K7 hr hl),this.2⟩
    ·have:=oz us n p.high (by simp[Pfx.high];omega) (ir hr hl) q h;exact⟨m8 this.1 (Ik hr hl),this.2⟩
  ·rename_i h;obtain rfl:q=p:=by simpa using hq
   exact⟨zh hr,by unfold i4;simpa using h⟩
theorem oA (us:List Pfx):∀(n:Nat) (p:Pfx),16 - p.len=(n:Int)→p.right=true→(dt us n p).Pairwise tJ
 |0,p,hn,hr=>by unfold dt;split<;>simp
 |n+1,p,hn,hr=>by
  unfold dt;split
  ·split
   ·simp
   ·have hl:p.len < 16:=by omega
    have h1:=oA us n p.low (by simp[Pfx.low];omega) (jv hr hl);have h2:=oA us n p.high (by simp[Pfx.high];omega) (ir hr hl);refine YT.2 ⟨h1,h2,fun a ha b hb=>?_⟩;have ka:=(cA.1 (oz us n p.low (by simp[Pfx.low];omega) (jv hr hl) a ha).1);have kb:=(cA.1 (oz us n p.high (by simp[Pfx.high];omega) (ir hr hl) b hb).1);obtain⟨e1,e2,e3,e4,e5⟩:=uD hr hl;unfold tJ;omega
  ·simp
theorem vZ (us:List Pfx)(hu:∀u∈us,u.right=true):∀(n:Nat) (p:Pfx),16 - p.len=(n:Int)→p.right=true→∀b,dO b p=true→i4 us b=true→∃h∈dt us n p,dO b h=true
 |n,p,hn,hr,b,hb,hf=>by
  have t9:=(cA.1 hb).1;have hbh:=b.hi_bd t9;by_cases hm:us.any p.meets=true
  ·have Jv:us.contains p=false:=by
    rw[YE];intro hc;have hp:p∈us:=by simpa using hc
    have:us.any b.meets=true:=XU.2 ⟨p,hp,dU.2 ⟨t9,hr,by have:=fe.1 hb;omega,by have:=fe.1 hb;omega⟩⟩;unfold i4 at hf;rw[this]at hf;cases hf
   have bR:p.len < b.len:=by
    have h3:=(fe.1 hb).2.2.1;rcases Int.lt_or_eq_of_le h3 with h|h
    ·exact h
    ·exfalso;have hi:=(cA.1 hb);have:b=p:=by
      obtain⟨ba,bl⟩:=b;obtain⟨pa,pl⟩:=p;simp only[Pfx.mk.injEq];simp only[Pfx.hi]at hi;simp only at h;subst h;exact⟨by omega,rfl⟩
     subst this;unfold i4 at hf;rw[hm]at hf;cases hf
   obtain⟨b1,b2,-⟩:=b.bd t9;have hl:p.len < 16:=by omega
   match n,hn with
   |0,hn=>omega
   |n+1,hn=>
    unfold dt;rw[if_pos hm,if_neg (by rw[Jv];simp)];rcases K6 hb bR with h|h
    ·obtain⟨q,hq,hi⟩:=vZ us hu n p.low (by simp[Pfx.low];omega) (jv hr hl) b h hf;exact⟨q,X3.2 (.inl hq),hi⟩
    ·obtain⟨q,hq,hi⟩:=vZ us hu n p.high (by simp[Pfx.high];omega) (ir hr hl) b h hf;exact⟨q,X3.2 (.inr hq),hi⟩
  ·refine⟨p,?_,hb⟩;match n with
   |0=>unfold dt;rw[if_neg hm];simp
   |n+1=>unfold dt;rw[if_neg hm];simp
theorem qc {root:Pfx}{us:List Pfx}(h:SpaceOK root us){q:Pfx}(hq:q∈iZ root us):dO q root=true∧i4 us q=true:=by
 obtain⟨g1,g2,-⟩:=root.bd h.rr;exact oz us _ root (by omega) h.rr q hq
theorem xN {root:Pfx}{us:List Pfx}(h:SpaceOK root us):(iZ root us).Pairwise tJ:=by
 obtain⟨g1,g2,-⟩:=root.bd h.rr;exact oA us _ root (by omega) h.rr
theorem E2 {root:Pfx}{us:List Pfx}(h:SpaceOK root us){b:Pfx}(hb:dO b root=true)(hf:i4 us b=true):∃q∈iZ root us,dO b q=true:=by
 obtain⟨g1,g2,-⟩:=root.bd h.rr;exact vZ us (fun u hu=>(cA.1 (h.ins u hu)).1) _ root (by omega) h.rr b hb hf
theorem CP {us:List Pfx}{a b:Pfx}(h:dO a b=true)(hf:i4 us b=true):i4 us a=true:=by
 unfold i4 at*;rw[Zz]at*;rw[Yh]at*;intro u hu hm;obtain⟨k1,k2,k3,k4⟩:=cA.1 h;obtain⟨m1,m2,m3,m4⟩:=dU.1 hm;exact hf u hu (dU.2 ⟨k2,m2,by omega,by omega⟩)
theorem K8 {root:Pfx}{us:List Pfx}(h:SpaceOK root us){size at_:Int}(lT:root.len≤size)(qs:size≤16)(hi:dO ⟨at_,size⟩ root=true)(hf:i4 us ⟨at_,size⟩=true)
 (D8:∀b,b < at_→dO ⟨b,size⟩ root=true→i4 us ⟨b,size⟩=false):∃q,(iZ root us).find? (fun q=>decide (q.len≤size))=some q∧q.at_=at_:=by
 obtain⟨q,hq,PD⟩:=E2 h hi hf;have s6:=(fe.1 PD).2.2.1;cases gT:(iZ root us).find? (fun q=>decide (q.len≤size))with
 |none=>
  rw[Yq]at gT;exact absurd s6 (by simpa using gT q hq)
 |some x=>
  refine⟨x,rfl,?_⟩;obtain⟨nr,⟨la,lb,gJ,cg⟩⟩:=List.find?_eq_some_iff_append.1 gT;have FF:x.len≤size:=by simpa using nr
  have hxm:x∈iZ root us:=by rw[gJ];simp
  obtain⟨xi,xf⟩:=qc h hxm;obtain⟨k1,k2,k3,k4⟩:=cA.1 xi;obtain⟨x1,x2,x3,x4,x5⟩:=x.bd k1;obtain⟨g1,g2,-⟩:=root.bd h.rr;have nO:=x.hi_bd k1;have cJ:dO ⟨x.at_,size⟩ x=true:=by
   rw[fe];obtain⟨k,hk,pk⟩:=mZ x1 FF qs;exact⟨om (a:=x.at_) (l:=size) (by omega) qs x3 x4 (ZB (C' ⟨k,hk⟩ (YL x5))),k1,FF,ZG _,nO.1⟩
  have hge:at_≤x.at_:=by
   rcases z' x.at_ at_ with hlt|hle
   ·have:=D8 x.at_ hlt (m8 cJ xi);rw[CP cJ xf]at this;cases this
   ·exact hle
  have hle:x.at_≤q.at_:=by
   rw[gJ]at hq;rcases X3.1 hq with h1|h1
   ·exact absurd (cg q h1) (by simp[s6])
   ·rcases X7.1 h1 with rfl|h2
    ·exact ZG _
    ·have hs:=xN h;rw[gJ]at hs;have:=(YC.1 (YT.1 hs).2.1).1 q h2;unfold tJ at this;omega
  have hqa:=(cA.1 PD).2.2.1;simp only at hqa;omega
theorem K9 {root:Pfx}{us:List Pfx}(h:SpaceOK root us){size:Int}(lT:root.len≤size)(qs:size≤16)
 (cg:∀b,dO ⟨b,size⟩ root=true→i4 us ⟨b,size⟩=false):(iZ root us).find? (fun q=>decide (q.len≤size))=none:=by
 rw[Yq];intro x hx FF;simp only[decide_eq_true_eq]at FF;obtain⟨xi,xf⟩:=qc h hx;obtain⟨k1,k2,k3,k4⟩:=cA.1 xi;obtain⟨x1,x2,x3,x4,x5⟩:=x.bd k1;obtain⟨g1,g2,-⟩:=root.bd h.rr;have nO:=x.hi_bd k1;have cJ:dO ⟨x.at_,size⟩ x=true:=by
  rw[fe];obtain⟨k,hk,pk⟩:=mZ x1 FF qs;exact⟨om (a:=x.at_) (l:=size) (by omega) qs x3 x4 (ZB (C' ⟨k,hk⟩ (YL x5))),k1,FF,ZG _,nO.1⟩
 have:=cg x.at_ (m8 cJ xi);rw[CP cJ xf]at this;cases this
end
section
open Go.Proofs
def nG (root:Pfx)(us:List Pfx)(size:Int):Pfx × Bool:=
 match (iZ root us).find? (fun q=>decide (q.len≤size))with|some q=>(⟨q.at_,size⟩,true)|none=>(Pfx.zero,false)
theorem Il (us:List Pfx)(p:Pfx):(us.any fun q=>mz q p)=us.any p.meets:=by
 congr 1;funext q;unfold mz;rw[fg,p6]
def Gz (us:List Pfx)(p:Pfx)(k:Nat)(f:Int):Prop:=p.at_≤f∧f≤65535∧(f=p.at_∨∃u∈us,u.right=true∧u.meets p=true∧f=u.hi - 1)
theorem La {us:List Pfx}{p u:Pfx}{k:Nat}{f:Int}(h:Gz us p k f)(hu:u∈us)(hr:u.right=true)(hm:u.meets p=true):Gz us p (k+1) (max f (u.hi - 1)):=by
 obtain⟨h1,h2,h3⟩:=h;have hb:=u.hi_bd hr;refine⟨by omega,by omega,?_⟩;rcases Int.le_total f (u.hi - 1)with hl|hl
 ·right;exact⟨u,hu,hr,hm,_e hl⟩
 ·rw[_i hl];exact h3
def zi (root:Pfx)(us:List Pfx)(size at_:Int):Prop:=∀b,b < at_→dO ⟨b,size⟩ root=true→i4 us ⟨b,size⟩=false
theorem CQ (root:Pfx)(us:List Pfx)(size:Int):zi root us size root.at_:=fun b hb hi=>by
 have:=(cA.1 hi).2.2.1;simp only at this;omega
theorem E3 {root:Pfx}{us:List Pfx}{size at_ f:Int}(h:zi root us size at_)(hr:Pfx.right ⟨at_,size⟩=true)(hf:Gz us ⟨at_,size⟩ us.length f)(hm:us.any (Pfx.meets ⟨at_,size⟩)=true):
 zi root us size (max at_ (f / eG size*eG size)+eG size):=by
 intro b hb hi;obtain⟨g1,g2,g3,g4,g5⟩:=Pfx.bd hr;simp only at g1 g2 g3 g4 g5;have s1:=fd g1;have t9:=(cA.1 hi).1;obtain⟨b1,b2,b3,b4,b5⟩:=Pfx.bd t9;simp only at b3 b4 b5;rcases z' b at_ with hlt|hle
 ·exact h b hlt hi
 ·
  have hd:eG size ∣ b - at_:=Int.dvd_sub (YL b5) (YL g5);rcases Int.lt_or_eq_of_le hle with hlt|heq
  ·have h1:=rd (by omega) (show 0 < b - at_ by omega) hd;have yi:b≤f:=by
    have e1:=Int.emod_add_mul_ediv f (eG size);have e2:=Int.emod_nonneg f (b:=eG size) (by omega);have e3:f / eG size*eG size=eG size*(f / eG size):=Int.mul_comm _ _;rcases Int.le_total at_ (f / eG size*eG size)with hl|hl
    ·rw[_e hl]at hb;have zM:eG size ∣ f / eG size*eG size - b:=Int.dvd_sub ⟨f / eG size,e3⟩ (YL b5);rcases z' (f / eG size*eG size) b with oP|hle2
     ·have:=rd (s:=eG size) (x:=b - f / eG size*eG size) (by omega) (by omega) (by have:=Int.dvd_neg.2 zM;rwa [Int.neg_sub]at this);omega
     ·omega
    ·rw[_i hl]at hb;omega
   obtain⟨k1,k2,k3⟩:=hf;simp only at k1 k3;rcases k3 with k3|⟨u,hu,PE,Jl,hfu⟩
   ·omega
   ·obtain⟨_,_,m3,m4⟩:=dU.1 Jl;simp only[Pfx.hi]at m3 m4;unfold i4;rw[XU.2 ⟨u,hu,dU.2 ⟨t9,PE,by simp only;omega,by simp only[Pfx.hi];omega⟩⟩];rfl
  ·subst heq;unfold i4;rw[hm];rfl
theorem Lb {root:Pfx}{us:List Pfx}(h:SpaceOK root us){size at_:Int}(lT:root.len≤size)(qs:size≤16)(hi:dO ⟨at_,size⟩ root=true)(hm:us.any (Pfx.meets ⟨at_,size⟩)=false)(hn:zi root us size at_):nG root us size=(⟨at_,size⟩,true):=by
 obtain⟨q,hq,he⟩:=K8 h lT qs hi (by unfold i4;rw[hm];rfl) hn;unfold nG;rw[hq];simp only[he]
theorem Im {root:Pfx}{us:List Pfx}(h:SpaceOK root us){size at_:Int}(lT:root.len≤size)(qs:size≤16)(ha:root.hi≤at_)(hn:zi root us size at_):nG root us size=(Pfx.zero,false):=by
 have:=K9 h lT qs fun b hb=>hn b (by obtain⟨k1,k2,k3,k4⟩:=cA.1 hb;have:=Pfx.hi_bd k1;simp only at this;omega) hb;unfold nG;rw[this]
theorem In {A:lW}(root:Pfx)(us:List Pfx)(uo:Option Addr)(ucap:Nat)(size:Int)(w:World)(h:Sl A w 2 cQ uo ucap us)(bF:SpaceOK root us)(lT:root.len≤size)(qs:size≤16):
 Calls prog 223 #[.agg #[.int .i64 root.at_,.int .i64 root.len,.slice uo us.length ucap],.int .i64 size] w fun e w'=>e= .returned (.tuple #[(nG root us size).1.v,.bool (nG root us size).2])∧dA w w':=by
 have fV:=h.cap_le;have Jw:=h.cap_max;obtain⟨g1,g2,g3,g4,g5⟩:=root.bd bF.rr;have pt:=root.hi_bd bF.rr;have wZ:0≤size:=by omega
 obtain⟨z1,z2⟩:=fd wZ;have cT:=fun W=>p3 size W wZ qs;have nu:=jQ root.at_ root.len;have tb:kO root.at_ root.len=root.hi - 1:=rfl;have He:bE root.at_ root.len=true:=bF.rr;replace nu:=fun W=>nu W He;rw[tb]at nu;obtain⟨R,hR⟩:∃R,R=nG root us size:=⟨_,rfl⟩;rw[←hR];have Ut:=fun at_=>Lb (at_:=at_) bF lT qs;have Uu:=fun at_=>Im (at_:=at_) bF lT qs;rw[←hR]at Ut Uu;replace Ut:=Xj Ut;replace Uu:=Xj Uu;replace cT:=Xj cT;replace nu:=Xj nu;obtain⟨st,dS⟩:∃st,st=eG size:=⟨_,rfl⟩;rw[←dS]at cT z1 z2;obtain⟨rh,T1⟩:∃rh,rh=root.hi:=⟨_,rfl⟩;rw[←T1]at nu pt;have FO:=CQ root us size;have MY:root.at_ % st=0:=by
  obtain⟨k,hk,-⟩:=mZ g1 lT qs;rw[dS];exact ZB (C' ⟨k,hk⟩ (YL g5))
 replace dS:=Xj dS;replace T1:=Xj T1;replace FO:=Xj FO;replace MY:=Xj MY;clear hR g5 tb He;go_enter func223,ntmps223
 go_wp2_with fail
 refine(cT.out _).mono ?_;rintro e w1 ⟨rfl,rfl⟩;go_wp2_with fail
 go_loopw [7] (fun s7 wr=>∃at_:Int,s7= .int .i64 at_∧root.at_≤at_∧at_≤140000∧Hid (at_ % st=0)∧Hid (zi root us size at_)∧dA ((w.alloc (.cells #[.int .i64 root.at_,.int .i64 root.len,.slice uo us.length ucap] 151)).alloc (.cells #[.int .i64 0,.int .i64 0] 32)) wr) (fun s7 _=>(200000 - intOf s7).toNat)
 case atStart=>exact⟨root.at_,rfl,ZG _,by omega,MY,FO,Below.refl _ _⟩
 case round=>
  obtain⟨at_,rfl,RI,ha2,pn,cg,hx⟩:=hrel;have D6:=aj (aj (aw _ _) (aw _ _)) hx;obtain⟨RP,FH⟩:=aJ hx;have TX:=br hx;(try simp only[Xr,aa,Xw,Xs]at RP FH TX)
  have lr:w.heap.size < wr.heap.size:=by omega
  have lr1:w.heap.size+1 < wr.heap.size:=by omega
  go_wp2_with fail
  refine(nu.out _).mono ?_;rintro e w2 ⟨rfl,cD⟩;obtain⟨dQ,dD⟩:=aJ cD;have dR:=br cD;(try simp only[Xr,aa,Xw,Xs]at dQ dD dR)
  have l2:w.heap.size < w2.heap.size:=by omega
  have l21:w.heap.size+1 < w2.heap.size:=by omega
  have t0:w2.cell? ⟨w.heap.size+1,0,none⟩=some (.int .i64 0):=bV cD (bV hx (by simp));have t1:w2.cell? ⟨w.heap.size+1,1,none⟩=some (.int .i64 0):=bV cD (bV hx (by simp));have tf:∀o,w2.frozen? ⟨w.heap.size+1,o,none⟩=false:=fun o=>by rw[dD _ _ lr1,FH _ _ (by omega)];simp
  by_cases hlt:at_≤rh - 1
  ·have hxw:=aj D6 cD;have cJ:dO ⟨at_,size⟩ root=true:=by
    rw[fe];exact⟨om (a:=at_) (l:=size) wZ qs (by omega) (by omega) (by rw[←dS.out];exact pn.out),bF.rr,lT,RI,by rw[←T1.out];show at_ < rh;omega⟩
   have t9:=(cA.1 cJ).1;replace cJ:=Xj cJ;replace t9:=Xj t9;go_wp2_with fail
   obtain⟨wo,Su⟩:∃wo:World,wo=w2.alloc (.cells #[.int .i64 at_,.int .i64 size] 32):=⟨_,rfl⟩;have Qk:dA w2 wo:=by rw[Su];exact aw _ _
   have q0:wo.cell? ⟨w2.heap.size,0,none⟩=some (.int .i64 at_):=by rw[Su];simp
   have q1:wo.cell? ⟨w2.heap.size,1,none⟩=some (.int .i64 size):=by rw[Su];simp
   have s0:wo.cell? ⟨w.heap.size,0,none⟩=some (.int .i64 root.at_):=bV Qk (bV cD (bV hx (by simp)));have s1:wo.cell? ⟨w.heap.size,1,none⟩=some (.int .i64 root.len):=bV Qk (bV cD (bV hx (by simp)));have s2:wo.cell? ⟨w.heap.size,2,none⟩=some (.slice uo us.length ucap):=bV Qk (bV cD (bV hx (by simp)));have t0o:=bV Qk t0;have t1o:=bV Qk t1;have tfo:∀o,wo.frozen? ⟨w.heap.size+1,o,none⟩=false:=fun o=>by rw[(aJ Qk).2 _ _ l21];exact tf o
   have RS:=aj hxw Qk;have l3:w2.heap.size < wo.heap.size:=by rw[Su];simp
   have l31:w.heap.size < wo.heap.size:=by omega
   have l32:w.heap.size+1 < wo.heap.size:=by omega
   rw[←Su];clear Su dQ dD RP FH t0 t1 tf nu;obtain⟨wz,rfl⟩:∃wz:World,wz=wr:=⟨_,rfl⟩;go_loopw [9,10] (fun s9 s10 wr2=>∃(k:Nat) (f:Int),k≤us.length∧s10= .int .i64 k∧s9= .int .i64 f∧at_≤f∧f≤65535∧Hid (Gz us ⟨at_,size⟩ k f)∧dA wo wr2) (fun _ s10 _=>us.length - (intOf s10).toNat)
   case atStart=>exact⟨0,at_,XE _,rfl,rfl,ZG _,by omega,Xj ⟨ZG _,(by show at_≤65535;omega),.inl rfl⟩,Below.refl _ _⟩
   case round=>
    obtain⟨k,f,hk,rfl,rfl,zQ,Bf,MZ,lO⟩:=hrel;obtain⟨RP,FH⟩:=aJ lO;have a0c:=br lO;have m1:w.heap.size < wr.heap.size:=by omega
    have m2:w2.heap.size < wr.heap.size:=by omega
    have m3:w.heap.size+1 < wr.heap.size:=by omega
    by_cases jc:k < us.length
    ·have ew:(k:Int) < (us.length:Int):=by omega
     obtain⟨b,off,cs,rfl,-,bR,hR',fq⟩:=h.elem k jc;replace fq:=eM (aj RS lO) fq;unfold cQ at hR';subst hR';obtain⟨k0,k1⟩:=ju fq;have lb:=dF k0;have PE:=(cA.1 (bF.ins us[k] (Ym jc))).1;have Jl:=Ym jc;obtain⟨y,hy⟩:∃y,y=us[k]:=⟨_,rfl⟩;rw[←hy]at k0 k1 PE Jl;have hyb:=y.hi_bd PE;have hm:=qY y.at_ y.len at_ size;have nN:nx y.at_ y.len at_ size=y.meets ⟨at_,size⟩:=fg y ⟨at_,size⟩;rw[nN]at hm;have hl:=fun W=>jQ y.at_ y.len W PE;rw[show kO y.at_ y.len=y.hi - 1 from rfl]at hl;obtain⟨q,hq⟩:∃q,q=y.meets ⟨at_,size⟩:=⟨_,rfl⟩;rw[←hq]at hm;obtain⟨yh,Uv⟩:∃yh,yh=y.hi:=⟨_,rfl⟩;rw[←Uv]at hl hyb;replace Uv:=Xj Uv;replace hq:=Xj hq;replace hm:=Xj hm;replace hl:=Xj hl;replace PE:=Xj PE;replace Jl:=Xj Jl;have hya:=(y.bd PE.out).2.2.1;clear fq hy h nN;cases q
     case true=>
      have rW:=La MZ.out Jl.out PE.out hq.out.symm;rw[←Uv.out]at rW;replace rW:=Xj rW;go_wp2_with fail
      refine b8 (by kernel_rfl) (by kernel_rfl) (fun _ _ d _ _ h=>by cases d<;>exact h) ?_;repeat(first|((first|refine bs rfl rfl rfl (by with_reducible rfl) ?_|refine bt rfl rfl rfl (by with_reducible rfl) ?_|refine bu rfl rfl rfl (by with_reducible rfl) ?_);simp only[Act.put,Xp,Xu,Xx])|(apply ci;(first|exact bx rfl|exact bD rfl rfl rfl (by with_reducible rfl));intro wq cO R hR;((have ei:=(aJ cO).1;(try simp only[Xr,aa,Xw,Xs]at ei));go_simp;first|exact hR|((go_at_call 106;exact iE (hm.out _) hR)));simp only[Act.put,Xp,Xu,Xx]))
      refine dL ?_;intro w4 Be;obtain⟨RT,MW⟩:=aJ Be;have MV:=br Be;(try simp only[Xr,aa,Xw,Xs]at RT MW MV)
      go_wp2_with fail
      refine(hl.out _).mono ?_;rintro e w5 ⟨rfl,Jm⟩;obtain⟨M1,Jn⟩:=aJ Jm;have M3:=br Jm;(try simp only[Xr,aa,Xw,Xs]at M1 Jn M3)
      go_wp2_with fail
      go_roundw
      case rel=>exact⟨k+1,max f (yh - 1),by omega,by go_num,rfl,by omega,by omega,rW,aj lO (aj Be Jm)⟩
      case measure=>simp[intOf];omega
     case false=>
      go_wp2_with fail
      refine b8 (by kernel_rfl) (by kernel_rfl) (fun _ _ d _ _ h=>by cases d<;>exact h) ?_;repeat(first|((first|refine bs rfl rfl rfl (by with_reducible rfl) ?_|refine bt rfl rfl rfl (by with_reducible rfl) ?_|refine bu rfl rfl rfl (by with_reducible rfl) ?_);simp only[Act.put,Xp,Xu,Xx])|(apply ci;(first|exact bx rfl|exact bD rfl rfl rfl (by with_reducible rfl));intro wq cO R hR;((have ei:=(aJ cO).1;(try simp only[Xr,aa,Xw,Xs]at ei));go_simp;first|exact hR|((go_at_call 106;exact iE (hm.out _) hR)));simp only[Act.put,Xp,Xu,Xx]))
      refine dL ?_;intro w4 Be;obtain⟨RT,MW⟩:=aJ Be;have MV:=br Be;(try simp only[Xr,aa,Xw,Xs]at RT MW MV)
      go_wp2_with fail
      go_roundw
      case rel=>exact⟨k+1,f,by omega,by go_num,rfl,zQ,Bf,Xj ⟨MZ.out.1,MZ.out.2.1,MZ.out.2.2⟩,aj lO Be⟩
      case measure=>simp[intOf];omega
    ·have ew:¬(k:Int) < (us.length:Int):=by omega
     obtain rfl:k=us.length:=by omega
     have RU:=fun W (h:Sl A W 2 cQ uo ucap us)=>xM root us uo ucap ⟨at_,size⟩ W h;rw[Il]at RU;simp only at RU;obtain⟨q,hq⟩:∃q,q=us.any (Pfx.meets ⟨at_,size⟩):=⟨_,rfl⟩;rw[←hq]at RU;replace hq:=Xj hq;replace RU:=Xj RU;have Us:=h.ext (aj RS lO);have l22:=l21;cases q
     case false=>
      have qo:=Ut.out at_ cJ.out hq.out.symm cg.out;replace qo:=Xj qo;have t0r:=bV lO t0o;have t1r:=bV lO t1o;have tfr:∀o,wr.frozen? ⟨w.heap.size+1,o,none⟩=false:=fun o=>by rw[FH _ _ l32];exact tfo o
      go_wp2_with fail
      refine(RU.out _ Us).mono ?_;rintro e w5 ⟨rfl,Jm⟩;obtain⟨M1,Jn⟩:=aJ Jm;have M3:=br Jm;(try simp only[Xr,aa,Xw,Xs]at M1 Jn M3)
      have t05:=bV Jm t0r;have t15:=bV Jm t1r;have tf5:∀o,w5.frozen? ⟨w.heap.size+1,o,none⟩=false:=fun o=>by rw[Jn _ _ m3];exact tfr o
      go_wp2_with fail
      refine bodyPost_ret ?_ rfl ⟨by rw[qo.out],?_⟩
      ·unfold Pfx.v;simp[results,results223,go_sem,t05,t15]
      ·exact Bel.bel (B:=w.heap.size) (((Bel.refl w).call (aj RS (aj lO Jm))).setCell0 (by omega) _|>.setCell0 (by omega) _)
     case true=>
      have Ql:=E3 cg.out t9.out MZ.out hq.out.symm;rw[←dS.out]at Ql;have h9:0≤f / st∧f / st*st≤f:=⟨Int.ediv_nonneg (by omega) (by omega),Int.ediv_mul_le f (by omega)⟩;have h10:=h9.1;have h11:=h9.2;have MS:0≤f / st*st:=Int.mul_nonneg h10 (by omega);have ln:(max at_ (f / st*st)+st) % st=0:=by
       rw[Int.add_emod_right];rcases Int.le_total at_ (f / st*st)with hh|hh
       ·rw[_e hh];exact Int.mul_emod_left _ _
       ·rw[_i hh];exact pn.out
      replace Ql:=Xj Ql;replace ln:=Xj ln;clear h9;go_wp2_with fail
      refine(RU.out _ Us).mono ?_;rintro e w5 ⟨rfl,Jm⟩;obtain⟨M1,Jn⟩:=aJ Jm;have M3:=br Jm;(try simp only[Xr,aa,Xw,Xs]at M1 Jn M3)
      go_wp2_with fail
      go_roundw
      case rel=>exact⟨_,rfl,by omega,by omega,ln,Ql,aj hx (aj cD (aj Qk (aj lO Jm)))⟩
      case measure=>simp[intOf];omega
  ·have Jj:rh - 1 < at_:=by omega
   have qo:=Uu.out at_ (by rw[←T1.out];omega) cg.out;replace qo:=Xj qo;go_wp2_with fail
   refine bodyPost_ret ?_ rfl ⟨by rw[qo.out],?_⟩
   ·unfold Pfx.zero Pfx.v;simp[results,results223,go_sem,t0,t1]
   ·exact Bel.bel (B:=w.heap.size) (((Bel.refl w).call (aj D6 cD)).setCell0 (by omega) _|>.setCell0 (by omega) _)
end
theorem Io (root:Pfx)(us:List Pfx):af prog 88 [.agg (EI root us)] (.v (.int .i64 (hU root us))):=by
 refine⟨cZ func88 (by kernel_rfl) rfl,fun M w vs hM hG fA=>?_⟩;obtain⟨v,vs,rfl,h1,fA⟩:=fD fA;rw[mn fA];obtain⟨uo,cap,rfl,hs⟩:=As h1;exact(iY root us uo cap w hs).mono fun e w' ⟨he,hx⟩=>⟨_,he,.v _,hx⟩
theorem AA (root:Pfx)(us:List Pfx):af prog 101 [.agg (EI root us)] (.v (.int .i64 (hU root us))):=by
 refine⟨cZ func101 (by kernel_rfl) rfl,fun M w vs hM hG fA=>?_⟩;obtain⟨v,vs,rfl,h1,fA⟩:=fD fA;rw[mn fA];obtain⟨uo,cap,rfl,hs⟩:=As h1;have:=vY root us uo cap w hs;rw[Ow]at this;exact this.mono fun e w' ⟨he,hx⟩=>⟨_,he,.v _,hx⟩
theorem Ox (root:Pfx)(us:List Pfx)(size:Int):af prog 201 [.agg (EI root us),.v (.int .i64 size)] (.tup [.agg (aN (lv root us size).1),.v (.bool (lv root us size).2.1),.v (.int .i64 (lv root us size).2.2)]):=by
 refine⟨cZ func201 (by kernel_rfl) rfl,fun M w vs hM hG fA=>?_⟩;obtain⟨v,vs,rfl,h1,fA⟩:=fD fA;obtain⟨v,vs,rfl,h2,fA⟩:=fD fA;rw[mn fA];obtain⟨uo,cap,rfl,hs⟩:=As h1;rw[sD h2];exact(Ou root us uo cap size w hs).mono fun e w' ⟨he,hx⟩=>⟨_,he,Ar rfl rfl,hx⟩
theorem Oy (root:Pfx)(us:List Pfx)(size:Int)(bF:SpaceOK root us)(h1:root.len≤size)(h2:size≤16):af prog 223 [.agg (EI root us),.v (.int .i64 size)] (.tup [.agg (aN (nG root us size).1),.v (.bool (nG root us size).2)]):=by
 refine⟨cZ func223 (by kernel_rfl) rfl,fun M w vs hM hG fA=>?_⟩;obtain⟨v,vs,rfl,g1,fA⟩:=fD fA;obtain⟨v,vs,rfl,g2,fA⟩:=fD fA;rw[mn fA];obtain⟨uo,cap,rfl,hs⟩:=As g1;rw[sD g2];exact(In root us uo cap size w hs bF h1 h2).mono fun e w' ⟨he,hx⟩=>⟨_,he,Ar rfl rfl,hx⟩
def gm:List Int→Bool
 |a::b::l=>decide (a≤b)&&gm (b::l)
 |_=>true
theorem qd:∀(l:List Int),gm l=true↔∀j (h:j+1 < l.length),l[j]≤l[j+1]
 |[]=>by simp[gm]
 |[a]=>by simp[gm]
 |a::b::l=>by
  have ih:=qd (b::l);simp only[gm,Xy,decide_eq_true_eq,ih];constructor
  ·rintro⟨h1,h2⟩ j hj;cases j with
   |zero=>exact h1
   |succ j=>exact h2 j (by simpa using hj)
  ·intro h;exact⟨h 0 (by simp),fun j hj=>h (j+1) (by simpa using hj)⟩
theorem E4 (l:List Int)(hl:l.length≤1000000000)(h0:l≠[]):af prog 177 [.sl 1 (l.map fun n=>[SM n])] (.v (.bool (gm l))):=by
 have Je:0 < l.length:=Zd.2 h0;have RB:IntKind.i64.wrap ((l.length:Int) - 1)=((l.length - 1:Nat):Int):=by rw[IntKind.wrap_i64];omega
 refine pj func177 ntmps177 results177 ?_;refine am ?_<;>intros;refine bL ae ak (fun m e h=>∃i:Nat,i < l.length∧(∀j (h:j+1 < l.length),i≤j→l[j]≤l[j+1])∧m=i∧e=[(3,.d (.v (.int .i64 i))),(2,.d (.v (.bool false))),(0,.d (.sl 1 (l.map fun n=>[SM n])))]∧h=[]) _ _ _ ⟨l.length - 1,by omega,fun j h1 h2=>by omega,rfl,rfl,rfl⟩ ?_ ?_
 ·exact wf (x:=[]) (hh:=rfl) (he:=⟨rfl,rfl,rfl,trivial⟩)
 ·rintro m e h ⟨i,hi,bF,hm,rfl,rfl⟩ CL mO;by_cases j4:0 < i
  ·obtain⟨x,hx⟩:∃x,l[i]? =some x:=⟨_,Xk hi⟩;obtain⟨y,hy⟩:∃y,l[i - 1]? =some y:=⟨_,Xk (by omega)⟩;have nI:l[i]=x:=by rw[Xk hi]at hx;exact XX.inj hx
   have xq:l[i - 1]=y:=by rw[Xk (by omega)]at hy;exact XX.inj hy
   have hgt:decide ((i:Int)>0)=true:=by simpa using j4
   have hw:IntKind.i64.wrap ((i:Int) - 1)=((i - 1:Nat):Int):=by rw[IntKind.wrap_i64];omega
   cases hlt:decide (x < y)with
   |true=>
    have RV:gm l=false:=by
     rw[YE,ne_eq,qd];intro h;have:=h (i - 1) (by omega);simp only[show i - 1+1=i by omega,nI,xq]at this;simp at hlt;omega
    have Bd:=KU x y;rw[hlt]at Bd;exact bc;all_goals(rw[RV];exact ai.refl _)
   |false=>
    have Bd:=KU x y;rw[hlt]at Bd;refine am ?_<;>intros;refine mO _ _ _ _ _ ?_ ⟨i - 1,by omega,?_,rfl,rfl,rfl⟩ (wf (x:=[]) (hh:=rfl) (he:=⟨rfl,rfl,rfl,trivial⟩))
    ·omega
    ·intro j hj hij;rcases XP (i - 1) j with h1|h1
     ·exact bF j hj (by omega)
     ·obtain rfl:j=i - 1:=by omega
      simp only[show i - 1+1=i by omega,nI,xq];simp at hlt;omega
  ·have Uw:i=0:=by omega
   have T2:gm l=true:=(qd l).2 fun j hj=>bF j hj (by omega);have hgt:decide ((i:Int)>0)=false:=by simp;omega
   replace Uw:=Xj Uw;exact bc;all_goals(rw[T2];exact ai.refl _)
def dV (n:Int):Bool:=decide (1≤n)&&decide (n≤65536)
theorem zj (n:Int):af prog 87 [.v (.int .i64 n)] (.v (.bool (dV n))):=by
 cases e1:decide (n≥1)with
 |true=>
  have h1:decide (1≤n)=true:=e1;refine pj func87 ntmps87 results87 ?_;refine am ?_<;>intros;all_goals(unfold dV;rw[h1];exact ai.refl _)
 |false=>
  have h1:decide (1≤n)=false:=e1;refine pj func87 ntmps87 results87 ?_;refine am ?_<;>intros;all_goals(unfold dV;rw[h1];exact ai.refl _)
def fH (r:Rul)(len:Int):Bool:=gm [len,r.min,r.usual,r.max,16]&&(decide (0≤r.cool)&&decide (r.cool≤1024))
theorem E5 (r:Rul)(root:Pfx):af prog 90 [.agg (pp r),.agg (aN root)] (.v (.bool (fH r root.len))):=by
 have hs:=E4 [root.len,r.min,r.usual,r.max,16] (by simp) (by simp);unfold fH;cases h0:gm [root.len,r.min,r.usual,r.max,16]with
 |false=>
  rw[h0]at hs;refine pj func90 ntmps90 results90 ?_;exact bc;all_goals exact ai.refl _
 |true=>
  rw[h0]at hs;show af _ _ _ (.v (.bool (true&&(decide (r.cool≥0)&&decide (r.cool≤1024)))));cases e1:decide (r.cool≥0)with
  |true=>
   refine pj func90 ntmps90 results90 ?_;exact bc;all_goals exact ai.refl _
  |false=>
   refine pj func90 ntmps90 results90 ?_;exact bc;all_goals exact ai.refl _
def dw (p:Pol):List Pfx:=p.leases.map (·.at_)
theorem GC (p:Pol)(hb:p.leases.length≤3518437208882):af prog 89 [.ept (ah p)] (.agg (EI p.root (dw p))):=by
 refine pj func89 ntmps89 results89 ?_;refine am ?_<;>intros;refine bL ae ak (fun m e h=>∃k g:Nat,k≤p.leases.length∧m=p.leases.length - k∧e=[(16,.d (.v (.int .i64 k))),(15,.d (.v (.int .i64 p.leases.length))),(14,.d (.sl 5 (p.leases.map aV))),(3,.ptr 1 0),(2,.ptr 0 0)]∧
  h=[.box 151 [.d (.v (.int .i64 0)),.d (.v (.int .i64 0)),.d (.v (.slice none 0 0))],.box 151 [.d (.v (.int .i64 p.root.at_)),.d (.v (.int .i64 p.root.len)),.own 2 g],.row 32 2 g (ab (((dw p).take k).map aN))]) _ _ _ ⟨0,0,XE _,rfl,rfl,rfl⟩ ?_ ?_
 ·exact(au (by simp) 1 _ _ 2 _ _ rfl rfl rfl).trans (wf (x:=[]) (hh:=rfl) (he:=⟨rfl,rfl,rfl,rfl,rfl,trivial⟩))
 ·rintro m e h ⟨k,g,hk,hm,rfl,rfl⟩ CL mO;by_cases hlt:k < p.leases.length
  ·obtain⟨l,hl⟩:∃l,p.leases[k]? =some l:=⟨_,Xk hlt⟩;have ew:(k:Int) < (p.leases.length:Int):=by omega
   have cR:=wi k (by omega);have rS:(((dw p).take k).length+1)*16≤140737488355328:=by rw[Xq,dw,XD];omega
   refine am ?_<;>intros;have Vu:(dw p).take (k+1)=(dw p).take k++[l.at_]:=ag (by rw[dw,Xz,hl];rfl);refine mO _ _ _ _ _ ?_ ⟨k+1,g+1,hlt,rfl,rfl,rfl⟩ (wf (x:=[.box 68 ((aV l).map .d)]) (hh:=?_) (he:=⟨rfl,rfl,rfl,rfl,rfl,trivial⟩))
   ·omega
   ·rw[Vu,Xo];rfl
  ·obtain rfl:k=p.leases.length:=by omega
   refine am ?_<;>intros;rw[XN (by simp[dw])];all_goals exact ai.refl _
theorem k7 (p:Lse):(aV p).length=5:=rfl
theorem k8 (p:Pol):(ah p).length=9:=rfl
theorem AB {α:Type}{enc:α→List D}(l:List α)(i j g:Nat)(hi:i < l.length)(hj:j=i+1):
 MSpec prog 205 [.own 0 g,.d (.v (.int .i64 i)),.d (.v (.int .i64 j))] [.row 68 5 g (ab (l.map enc))] (.own 0 (g+1)) [.row 68 5 (g+1) (ab ((l.eraseIdx i).map enc))]:=by
 have h1:((i:Int)==(j:Int))=false:=by simp;omega
 have bB:¬ab (l.map enc)=[]:=by cases l<;>simp[ab]at hi ⊢
 have hle:(i:Int)≤(j:Int):=by omega
 have hle2:(j:Int)≤(l.length:Int):=by omega
 have lS:(l.map enc).length=l.length:=XD _;have h2:=lE (ab (l.map enc)) i j l.length (by rw[aF,lS];exact hi) hj (by rw[aF,lS]);rw[aF,lS]at h2;have rX:=Xj hj;clear hj;have Jz:j≤l.length:=by have:=rX.out;omega
 have D8:min (l.length - j) (l.length - j)=l.length - j:=Zq _;have hlt:i+(l.length - j)≤l.length:=by have:=rX.out;omega
 have pk:l.length - (i+(l.length - j))=1:=by have:=rX.out;omega
 have i7:i+(l.length - j)+1≤l.length:=by have:=rX.out;omega
 have ut:¬ay (ab (l.map enc)) i (((ab (l.map enc)).drop j).take (l.length - j))=[]:=by
  intro h;rw[h]at h2;simp at h2;omega
 refine mj func205 ntmps205 results205 ?_;repeat' (first|(with_reducible refine And.intro ?_ ?_)|(with_reducible refine cn (fun _=>?_) (fun _=>?_))|(with_reducible refine aA (fun _=>?_) (fun _=>?_))|(with_reducible refine be (by kernel_rfl))|simp -dsimp only[go_sem,seval, *,h1,bB,Yo,Xq,XJ]|((with_reducible refine bf ?_);simp -dsimp only[go_sem,seval,h1,bB,Yo,Xq,XJ];first|refine aC (by first|assumption|fail) (by first|exact .inl rfl|exact .inr rfl) ?_|refine aB (by assumption) (by repeat(first|exact ai.refl _|exact ai.nil _|(refine ai.tup ?_)|(refine ai.agg ?_ rfl)|exact trivial|(refine And.intro ?_ ?_))) (by first|exact .inl rfl|exact .inr rfl) ?_)|omega|exact decide_eq_true (by omega)|exact ai.refl _)
 rw[fX];exact oe (by rw[lS];exact hi) rX.out lS.symm
theorem iG {α:Type}(enc:α→List D)(l:List α)(hl:l.length≤1000000000):
 MSpec prog 51 [.d (.sl 5 (l.map enc))] [] (.own 0 1) [.row 68 5 1 (ab (l.map enc))]:=by
 cases l with
 |nil=>
  refine qP (pl:=[]) (ql:=[]) fun ao cap=>?_;cases ao with
  |none=>
   simp only[Ya];refine mj func51 ntmps51 results51 ?_;repeat' (first|(with_reducible refine And.intro ?_ ?_)|(with_reducible refine cn (fun _=>?_) (fun _=>?_))|(with_reducible refine aA (fun _=>?_) (fun _=>?_))|(with_reducible refine be (by kernel_rfl))|simp -dsimp only[go_sem,seval, *,Zk,XR]|((with_reducible refine bf ?_);simp -dsimp only[go_sem,seval,Zk,XR];first|refine aC (by first|assumption|fail) (by first|exact .inl rfl|exact .inr rfl) ?_|refine aB (by assumption) (by repeat(first|exact ai.refl _|exact ai.nil _|(refine ai.tup ?_)|(refine ai.agg ?_ rfl)|exact trivial|(refine And.intro ?_ ?_))) (by first|exact .inl rfl|exact .inr rfl) ?_)|omega|exact decide_eq_true (by omega)|exact ai.refl _)
   refine iT (h:=[]) (XB _) 68 5 ?_;exact(fW 0 0 68 5 [] rfl (bn rfl rfl))
  |some a=>
   simp only[Ya];refine mj func51 ntmps51 results51 ?_;repeat' (first|(with_reducible refine And.intro ?_ ?_)|(with_reducible refine cn (fun _=>?_) (fun _=>?_))|(with_reducible refine aA (fun _=>?_) (fun _=>?_))|(with_reducible refine be (by kernel_rfl))|simp -dsimp only[go_sem,seval, *,YD,XR]|((with_reducible refine bf ?_);simp -dsimp only[go_sem,seval,YD,XR];first|refine aC (by first|assumption|fail) (by first|exact .inl rfl|exact .inr rfl) ?_|refine aB (by assumption) (by repeat(first|exact ai.refl _|exact ai.nil _|(refine ai.tup ?_)|(refine ai.agg ?_ rfl)|exact trivial|(refine And.intro ?_ ?_))) (by first|exact .inl rfl|exact .inr rfl) ?_)|omega|exact decide_eq_true (by omega)|exact ai.refl _)
   exact bn rfl rfl
 |cons x l=>
  simp only[XA]at hl;refine mj func51 ntmps51 results51 ?_;repeat' (first|(with_reducible refine And.intro ?_ ?_)|(with_reducible refine cn (fun _=>?_) (fun _=>?_))|(with_reducible refine aA (fun _=>?_) (fun _=>?_))|(with_reducible refine be (by kernel_rfl))|simp -dsimp only[go_sem,seval, *,YD,XR]|((with_reducible refine bf ?_);simp -dsimp only[go_sem,seval,YD,XR];first|refine aC (by first|assumption|fail) (by first|exact .inl rfl|exact .inr rfl) ?_|refine aB (by assumption) (by repeat(first|exact ai.refl _|exact ai.nil _|(refine ai.tup ?_)|(refine ai.agg ?_ rfl)|exact trivial|(refine And.intro ?_ ?_))) (by first|exact .inl rfl|exact .inr rfl) ?_)|omega|exact decide_eq_true (by omega)|exact ai.refl _)
  all_goals first|omega|exact bn rfl rfl
theorem E6 (p:Lse→Bool)(l:List Lse)(k g fn:Nat)(caps:List PV)(h:List Chunk)(hk:aG h k= .row 68 5 g (ab (l.map aV)))(Hb:an h.length caps=true)(hbh:aH h.length h=true)(hl:l.length≤1000000000)
 (h5:∃ds,cM (bq (aG h) 5) caps=some ds∧∀x∈l,af prog fn (.agg (aV x)::ds) (.v (.bool (p x))))
 (h6:∀(m:List Lse) (b:Chunk),∃ds,cM (vw (aG (bw h k (.row 68 5 g (ab (m.map aV)))++[b]))) caps=some ds∧∀x∈l,af prog fn (.agg (aV x)::ds) (.v (.bool (p x)))):
 MSpec prog 128 [.own k g,.clo fn caps] h (.own k (g+1)) (bw h k (.row 68 5 (g+1) (ab ((l.filter fun x=>!p x).map aV)))):=by
 have hlt:k < h.length:=oV (by rw[hk];simp);obtain⟨ds,DT,zM⟩:=h5;have nP:=m6 k7 p l fn ds hl zM;have hle:h.length≤(bw h k (.row 68 5 (g+1) (ab ((l.filter fun x=>!p x).map aV)))).length:=by rw[qN hlt];exact XB _
 have A5:an h.length [.own k g,.clo fn caps]=true:=by simp only[an,aq,hlt,Hb,decide_true,Yp]
 unfold cz at nP;cases hf:l.findIdx? p with
 |none=>
  rw[hf]at nP;replace hf:=Xj hf;refine Ap ae ak func128 rfl ntmps128 results128 (by kernel_rfl) hle A5 hbh ?_;repeat' (first|(with_reducible refine And.intro ?_ ?_)|(with_reducible refine cn (fun _=>?_) (fun _=>?_))|(with_reducible refine aA (fun _=>?_) (fun _=>?_))|(with_reducible refine be (by kernel_rfl))|simp -dsimp only[go_sem,seval, *,hk,DT]|((with_reducible refine bf ?_);simp -dsimp only[go_sem,seval,hk,DT];first|refine aC (by first|assumption|exact nP) (by first|exact .inl rfl|exact .inr rfl) ?_|refine aB (by assumption) (by repeat(first|exact ai.refl _|exact ai.nil _|(refine ai.tup ?_)|(refine ai.agg ?_ rfl)|exact trivial|(refine And.intro ?_ ?_))) (by first|exact .inl rfl|exact .inr rfl) ?_)|omega|exact decide_eq_true (by omega)|exact ai.refl _)
  have he:(l.filter fun x=>!p x)=l:=Y0.2 fun x hx=>by
   have:=Yn.1 hf.out x hx;simp[this]
  rw[he];exact fW k g _ _ _ hk (bn rfl rfl)
 |some i0=>
  rw[hf]at nP;have dS:=yQ hf;replace hf:=Xj hf;have M4:((i0:Int)== -1)=false:=by rw[beq_eq_false_iff_ne];omega
  have cl:=wi i0 (by omega);obtain⟨ga,gb,gc,gd,ge,gf,gg,gi⟩:=QL hlt;refine Ap ae ak func128 rfl ntmps128 results128 (by kernel_rfl) hle A5 hbh ?_;have dS:=Xj dS;repeat' (first|(with_reducible refine And.intro ?_ ?_)|(with_reducible refine cn (fun _=>?_) (fun _=>?_))|(with_reducible refine aA (fun _=>?_) (fun _=>?_))|(with_reducible refine be (by kernel_rfl))|simp -dsimp only[go_sem,seval, *,hk,DT,M4,cl]|((with_reducible refine bf ?_);simp -dsimp only[go_sem,seval,hk,DT,M4,cl];first|refine aC (by first|assumption|exact nP) (by first|exact .inl rfl|exact .inr rfl) ?_|refine aB (by assumption) (by repeat(first|exact ai.refl _|exact ai.nil _|(refine ai.tup ?_)|(refine ai.agg ?_ rfl)|exact trivial|(refine And.intro ?_ ?_))) (by first|exact .inl rfl|exact .inr rfl) ?_)|omega|exact decide_eq_true (by omega)|exact ai.refl _)
  refine bL ae ak (fun m e h'=>∃j,j≤l.length∧i0 < j∧m=l.length - j∧e=[(6,.d (.v (.int .i64 j))),(5,.d (.v (.int .i64 (cB p l j).length))),(4,.d (.v (.slice none 0 0))),(1,.clo fn caps),(0,.own k g)]∧h'=bw h k (.row 68 5 g (ab ((g9 p l j).map aV)))) (l.length - (i0+1)) _ _ ⟨i0+1,dS.out.1,by omega,rfl,rfl,rfl⟩ ?_ ?_
  ·rw[dS.out.2.1,dS.out.2.2];refine ee [] (by rw[gb];exact XB _) (by rw[sw h k _ hk hlt,Yw]) ⟨rfl,rfl,rfl,rfl,rfl,trivial⟩ (by rw[gb];simp only[ek,aq,hlt,Hb,decide_true,Yp]) (by rw[gb];exact gz _ _ _ _ hbh (by simp only[aQ,az]) hlt)
  ·rintro m e h' ⟨j,hj,hij,rfl,rfl,rfl⟩ C hC;have uI:=uz p l j;have lq:=Ge p l j;by_cases MJ:j < l.length
   ·obtain⟨x,hx⟩:∃x,l[j]? =some x:=⟨_,Xk MJ⟩;have DU:(g9 p l j)[j]? =some x:=by rw[Gf p l j j uI.1];exact hx
    obtain⟨y,sZ⟩:∃y,(g9 p l j)[(cB p l j).length]? =some y:=⟨_,Xk (by omega)⟩;have ip:(j:Int) < (l.length:Int):=by omega
    have cD:=wi j (by omega);have lV:IntKind.i64.wrap (((cB p l j).length:Int)+1)=(((cB p l j).length+1:Nat):Int):=by rw[IntKind.wrap_i64];omega
    have i7:(cB p l j).length < l.length:=by omega
    obtain⟨ds2,Px,Vv⟩:=h6 (g9 p l j) (.box 68 ((aV x).map .d));have jL:=Vv x (Xl hx);have hx:=Xj hx;have bZ:=bO aV (g9 p l j) (cB p l j).length x;simp only[aV,Xm,Xv]at Px jL bZ;repeat' (first|(with_reducible refine And.intro ?_ ?_)|(with_reducible refine cn (fun _=>?_) (fun _=>?_))|(with_reducible refine aA (fun _=>?_) (fun _=>?_))|(with_reducible refine be (by kernel_rfl))|simp -dsimp only[go_sem,seval, *,aV,DU,sZ,ip,cD,lV,Px,lq,gb]|((with_reducible refine bf ?_);simp -dsimp only[go_sem,seval,aV,DU,sZ,ip,cD,lV,Px,lq,gb];first|refine aC (by first|assumption|exact jL) (by first|exact .inl rfl|exact .inr rfl) ?_|refine aB (by assumption) (by repeat(first|exact ai.refl _|exact ai.nil _|(refine ai.tup ?_)|(refine ai.agg ?_ rfl)|exact trivial|(refine And.intro ?_ ?_))) (by first|exact .inl rfl|exact .inr rfl) ?_)|omega|exact decide_eq_true (by omega)|exact ai.refl _)
    ·rename_i hp;obtain⟨q1,q2⟩:=PW hx.out hp;refine hC _ _ _ _ _ (by omega) ⟨j+1,by omega,by omega,rfl,rfl,rfl⟩ ?_;rw[q1,q2];exact ee _ (by rw[gb];exact XB _) rfl ⟨rfl,rfl,rfl,rfl,rfl,trivial⟩ (by rw[gb];simp only[ek,aq,hlt,Hb,decide_true,Yp,YA]) (by rw[gb];exact gz _ _ _ _ hbh (by simp only[aQ,az]) hlt)
    ·rename_i hp;obtain⟨q1,q2⟩:=PX hx.out hp;refine hC _ _ _ _ _ (by omega) ⟨j+1,by omega,by omega,rfl,rfl,rfl⟩ ?_;rw[q1,q2];exact ee _ (by rw[gb];exact XB _) rfl ⟨rfl,rfl,rfl,rfl,rfl,trivial⟩ (by rw[gb];simp only[ek,aq,hlt,Hb,decide_true,Yp,YA]) (by rw[gb];exact gz _ _ _ _ hbh (by simp only[aQ,az]) hlt)
   ·obtain rfl:j=l.length:=by omega
    have hm0:g9 p l l.length≠[]:=fun e=>by rw[e]at lq;simp at lq;omega
    have Va:¬ab ((g9 p l l.length).map aV)=[]:=by simpa[ab]using hm0
    have G4:∀z:List PV,(ay (ab ((g9 p l l.length).map aV)) (cB p l l.length).length (XV (l.length - (cB p l l.length).length) z)).length=l.length:=fun z=>by
     rw[bg (by simp[aF,lq];omega)];simp[aF,lq]
    have RF:∀z:List PV,¬ay (ab ((g9 p l l.length).map aV)) (cB p l l.length).length (XV (l.length - (cB p l l.length).length) z)=[]:=fun z e=>by
     have:=G4 z;rw[e]at this;simp at this;omega
    repeat' (first|(with_reducible refine And.intro ?_ ?_)|(with_reducible refine cn (fun _=>?_) (fun _=>?_))|(with_reducible refine aA (fun _=>?_) (fun _=>?_))|(with_reducible refine be (by kernel_rfl))|simp -dsimp only[go_sem,seval, *,aV,YN,lq,gb]|((with_reducible refine bf ?_);simp -dsimp only[go_sem,seval,aV,YN,lq,gb];first|refine aC (by first|assumption|fail) (by first|exact .inl rfl|exact .inr rfl) ?_|refine aB (by assumption) (by repeat(first|exact ai.refl _|exact ai.nil _|(refine ai.tup ?_)|(refine ai.agg ?_ rfl)|exact trivial|(refine And.intro ?_ ?_))) (by first|exact .inl rfl|exact .inr rfl) ?_)|omega|exact decide_eq_true (by omega)|exact ai.refl _)
    have rT:=yS p l;rw[←rT,ZH];exact yT hlt (by simp[lq];omega) (by simpa using hm0) (by simp[lq])
theorem zk (p:Pol→Bool)(l:List Pol)(k g fn:Nat)(caps:List PV)(h:List Chunk)(hk:aG h k= .row 62 9 g (ab (l.map ah)))(Hb:an h.length caps=true)(hbh:aH h.length h=true)(hl:l.length≤1000000000)
 (h5:∃ds,cM (bq (aG h) 5) caps=some ds∧∀x∈l,af prog fn (.agg (ah x)::ds) (.v (.bool (p x))))
 (h6:∀(m:List Pol) (b:Chunk),∃ds,cM (vw (aG (bw h k (.row 62 9 g (ab (m.map ah)))++[b]))) caps=some ds∧∀x∈l,af prog fn (.agg (ah x)::ds) (.v (.bool (p x)))):
 MSpec prog 126 [.own k g,.clo fn caps] h (.own k (g+1)) (bw h k (.row 62 9 (g+1) (ab ((l.filter fun x=>!p x).map ah)))):=by
 have hlt:k < h.length:=oV (by rw[hk];simp);obtain⟨ds,DT,zM⟩:=h5;have nP:=zb k8 p l fn ds hl zM;have hle:h.length≤(bw h k (.row 62 9 (g+1) (ab ((l.filter fun x=>!p x).map ah)))).length:=by rw[qN hlt];exact XB _
 have A5:an h.length [.own k g,.clo fn caps]=true:=by simp only[an,aq,hlt,Hb,decide_true,Yp]
 unfold cz at nP;cases hf:l.findIdx? p with
 |none=>
  rw[hf]at nP;replace hf:=Xj hf;refine Ap ae ak func126 rfl ntmps126 results126 (by kernel_rfl) hle A5 hbh ?_;repeat' (first|(with_reducible refine And.intro ?_ ?_)|(with_reducible refine cn (fun _=>?_) (fun _=>?_))|(with_reducible refine aA (fun _=>?_) (fun _=>?_))|(with_reducible refine be (by kernel_rfl))|simp -dsimp only[go_sem,seval, *,hk,DT]|((with_reducible refine bf ?_);simp -dsimp only[go_sem,seval,hk,DT];first|refine aC (by first|assumption|exact nP) (by first|exact .inl rfl|exact .inr rfl) ?_|refine aB (by assumption) (by repeat(first|exact ai.refl _|exact ai.nil _|(refine ai.tup ?_)|(refine ai.agg ?_ rfl)|exact trivial|(refine And.intro ?_ ?_))) (by first|exact .inl rfl|exact .inr rfl) ?_)|omega|exact decide_eq_true (by omega)|exact ai.refl _)
  have he:(l.filter fun x=>!p x)=l:=Y0.2 fun x hx=>by
   have:=Yn.1 hf.out x hx;simp[this]
  rw[he];exact fW k g _ _ _ hk (bn rfl rfl)
 |some i0=>
  rw[hf]at nP;have dS:=yQ hf;replace hf:=Xj hf;have M4:((i0:Int)== -1)=false:=by rw[beq_eq_false_iff_ne];omega
  have cl:=wi i0 (by omega);obtain⟨ga,gb,gc,gd,ge,gf,gg,gi⟩:=QL hlt;refine Ap ae ak func126 rfl ntmps126 results126 (by kernel_rfl) hle A5 hbh ?_;have dS:=Xj dS;repeat' (first|(with_reducible refine And.intro ?_ ?_)|(with_reducible refine cn (fun _=>?_) (fun _=>?_))|(with_reducible refine aA (fun _=>?_) (fun _=>?_))|(with_reducible refine be (by kernel_rfl))|simp -dsimp only[go_sem,seval, *,hk,DT,M4,cl]|((with_reducible refine bf ?_);simp -dsimp only[go_sem,seval,hk,DT,M4,cl];first|refine aC (by first|assumption|exact nP) (by first|exact .inl rfl|exact .inr rfl) ?_|refine aB (by assumption) (by repeat(first|exact ai.refl _|exact ai.nil _|(refine ai.tup ?_)|(refine ai.agg ?_ rfl)|exact trivial|(refine And.intro ?_ ?_))) (by first|exact .inl rfl|exact .inr rfl) ?_)|omega|exact decide_eq_true (by omega)|exact ai.refl _)
  refine bL ae ak (fun m e h'=>∃j,j≤l.length∧i0 < j∧m=l.length - j∧e=[(6,.d (.v (.int .i64 j))),(5,.d (.v (.int .i64 (cB p l j).length))),(4,.d (.v (.slice none 0 0))),(1,.clo fn caps),(0,.own k g)]∧h'=bw h k (.row 62 9 g (ab ((g9 p l j).map ah)))) (l.length - (i0+1)) _ _ ⟨i0+1,dS.out.1,by omega,rfl,rfl,rfl⟩ ?_ ?_
  ·rw[dS.out.2.1,dS.out.2.2];refine ee [] (by rw[gb];exact XB _) (by rw[sw h k _ hk hlt,Yw]) ⟨rfl,rfl,rfl,rfl,rfl,trivial⟩ (by rw[gb];simp only[ek,aq,hlt,Hb,decide_true,Yp]) (by rw[gb];exact gz _ _ _ _ hbh (by simp only[aQ,az]) hlt)
  ·rintro m e h' ⟨j,hj,hij,rfl,rfl,rfl⟩ C hC;have uI:=uz p l j;have lq:=Ge p l j;by_cases MJ:j < l.length
   ·obtain⟨x,hx⟩:∃x,l[j]? =some x:=⟨_,Xk MJ⟩;have DU:(g9 p l j)[j]? =some x:=by rw[Gf p l j j uI.1];exact hx
    obtain⟨y,sZ⟩:∃y,(g9 p l j)[(cB p l j).length]? =some y:=⟨_,Xk (by omega)⟩;have ip:(j:Int) < (l.length:Int):=by omega
    have cD:=wi j (by omega);have lV:IntKind.i64.wrap (((cB p l j).length:Int)+1)=(((cB p l j).length+1:Nat):Int):=by rw[IntKind.wrap_i64];omega
    have i7:(cB p l j).length < l.length:=by omega
    obtain⟨ds2,Px,Vv⟩:=h6 (g9 p l j) (.box 62 ((ah x).map .d));have jL:=Vv x (Xl hx);have hx:=Xj hx;have bZ:=bO ah (g9 p l j) (cB p l j).length x;simp only[ah,Xm,Xv]at Px jL bZ;repeat' (first|(with_reducible refine And.intro ?_ ?_)|(with_reducible refine cn (fun _=>?_) (fun _=>?_))|(with_reducible refine aA (fun _=>?_) (fun _=>?_))|(with_reducible refine be (by kernel_rfl))|simp -dsimp only[go_sem,seval, *,ah,DU,sZ,ip,cD,lV,Px,lq,gb]|((with_reducible refine bf ?_);simp -dsimp only[go_sem,seval,ah,DU,sZ,ip,cD,lV,Px,lq,gb];first|refine aC (by first|assumption|exact jL) (by first|exact .inl rfl|exact .inr rfl) ?_|refine aB (by assumption) (by repeat(first|exact ai.refl _|exact ai.nil _|(refine ai.tup ?_)|(refine ai.agg ?_ rfl)|exact trivial|(refine And.intro ?_ ?_))) (by first|exact .inl rfl|exact .inr rfl) ?_)|omega|exact decide_eq_true (by omega)|exact ai.refl _)
    ·rename_i hp;obtain⟨q1,q2⟩:=PW hx.out hp;refine hC _ _ _ _ _ (by omega) ⟨j+1,by omega,by omega,rfl,rfl,rfl⟩ ?_;rw[q1,q2];exact ee _ (by rw[gb];exact XB _) rfl ⟨rfl,rfl,rfl,rfl,rfl,trivial⟩ (by rw[gb];simp only[ek,aq,hlt,Hb,decide_true,Yp,YA]) (by rw[gb];exact gz _ _ _ _ hbh (by simp only[aQ,az]) hlt)
    ·rename_i hp;obtain⟨q1,q2⟩:=PX hx.out hp;refine hC _ _ _ _ _ (by omega) ⟨j+1,by omega,by omega,rfl,rfl,rfl⟩ ?_;rw[q1,q2];exact ee _ (by rw[gb];exact XB _) rfl ⟨rfl,rfl,rfl,rfl,rfl,trivial⟩ (by rw[gb];simp only[ek,aq,hlt,Hb,decide_true,Yp,YA]) (by rw[gb];exact gz _ _ _ _ hbh (by simp only[aQ,az]) hlt)
   ·obtain rfl:j=l.length:=by omega
    have hm0:g9 p l l.length≠[]:=fun e=>by rw[e]at lq;simp at lq;omega
    have Va:¬ab ((g9 p l l.length).map ah)=[]:=by simpa[ab]using hm0
    have G4:∀z:List PV,(ay (ab ((g9 p l l.length).map ah)) (cB p l l.length).length (XV (l.length - (cB p l l.length).length) z)).length=l.length:=fun z=>by
     rw[bg (by simp[aF,lq];omega)];simp[aF,lq]
    have RF:∀z:List PV,¬ay (ab ((g9 p l l.length).map ah)) (cB p l l.length).length (XV (l.length - (cB p l l.length).length) z)=[]:=fun z e=>by
     have:=G4 z;rw[e]at this;simp at this;omega
    repeat' (first|(with_reducible refine And.intro ?_ ?_)|(with_reducible refine cn (fun _=>?_) (fun _=>?_))|(with_reducible refine aA (fun _=>?_) (fun _=>?_))|(with_reducible refine be (by kernel_rfl))|simp -dsimp only[go_sem,seval, *,ah,YN,lq,gb]|((with_reducible refine bf ?_);simp -dsimp only[go_sem,seval,ah,YN,lq,gb];first|refine aC (by first|assumption|fail) (by first|exact .inl rfl|exact .inr rfl) ?_|refine aB (by assumption) (by repeat(first|exact ai.refl _|exact ai.nil _|(refine ai.tup ?_)|(refine ai.agg ?_ rfl)|exact trivial|(refine And.intro ?_ ?_))) (by first|exact .inl rfl|exact .inr rfl) ?_)|omega|exact decide_eq_true (by omega)|exact ai.refl _)
    have rT:=yS p l;rw[←rT,ZH];exact yT hlt (by simp[lq];omega) (by simpa using hm0) (by simp[lq])
def bK (b:Bok)(id:Int):Option Pol:=b.pools.find? fun p=>p.id==id
def m9 (l:List Pol):Prop:=l.Pairwise fun a b=>a.id < b.id
theorem Ip {α:Type}{key:α→Int}{t:Int}{l:List α}(hs:l.Pairwise fun a b=>key a < key b):(qU key t l=true∧∃p,l[jg key t l]? =some p∧l.find? (fun p=>key p==t)=some p∧key p=t)∨(qU key t l=false∧l.find? (fun p=>key p==t)=none):=by
 have yf:∀q (hq:q < l.length),q < jg key t l→key l[q] < t:=by
  intro q hq hlt;have:=List.not_of_lt_findIdx hlt;simp at this;omega
 cases hx:l[jg key t l]? with
 |none=>
  right;have hb:qU key t l=false:=by unfold qU;rw[hx]
  refine⟨hb,?_⟩;rw[Yq];intro y hy;obtain⟨q,hq,rfl⟩:=X0.1 hy;have bR:l.length≤jg key t l:=by
   rcases XP (jg key t l) l.length with h|h
   ·rw[Xk h]at hx;cases hx
   ·exact h
  have:=yf q hq (by omega);simp;omega
 |some p=>
  obtain⟨hlt,hp⟩:=Xn.1 hx;have hge:t≤key p:=by
   have:=List.findIdx_getElem (xs:=l) (p:=fun x=>decide (t≤key x)) (w:=hlt);rw[show l[List.findIdx (fun x=>decide (t≤key x)) l]'hlt=p from hp]at this;simpa using this
  by_cases he:key p=t
  ·left;have hb:qU key t l=true:=by unfold qU;rw[hx];simpa using he
   refine⟨hb,p,rfl,?_,he⟩;have iP:p∈l:=Xl hx;cases hf:l.find? (fun p=>key p==t)with
   |none=>exact absurd he (by simpa using Yq.1 hf p iP)
   |some q=>
    have hq1:key q=t:=by simpa using Zh hf
    have pu:=YF hf;obtain⟨i,hi,rfl⟩:=X0.1 pu;rcases Zb i (jg key t l)with h|h|h
    ·have:=yf i hi h;omega
    ·subst h;rw[Xk hlt]at hx;rw[XX.inj hx]
    ·have:=XF.1 hs _ i hlt hi h;rw[hp]at this;omega
  ·right;have hb:qU key t l=false:=by unfold qU;rw[hx];simpa using he
   refine⟨hb,?_⟩;rw[Yq];intro y hy;obtain⟨i,hi,rfl⟩:=X0.1 hy;rcases Zb i (jg key t l)with h|h|h
   ·have:=yf i hi h;simp;omega
   ·subst h;rw[hp];simpa using he
   ·have:=XF.1 hs _ i hlt hi h;rw[hp]at this;simp;omega
theorem E7 (p:Pol)(t:Int):af prog 198 [.agg (ah p),.v (.int .i64 t)] (.v (.int .i64 (ez p.id t))):=by
 refine pj func198 ntmps198 results198 ?_;have z1z:=ml p.id t;exact bc;all_goals exact ai.refl _
def oB (b:Bok)(id:Int):D:=match bK b id with|some p=> .tup [.ept (ah p),.v (.bool true)]|none=> .tup [.v (.pointer none),.v (.bool false)]
theorem nc (b:Bok)(id:Int)(hb:b.pools.length≤1000000000)(hs:m9 b.pools):af prog 116 [.ept (aS b),.v (.int .i64 id)] (oB b id):=by
 have PF:=sL k8 (fun p=>p.id) b.pools id 198 [] hb hs (fun p _=>E7 p id);unfold oB bK;rcases Ip (t:=id) hs with⟨h1,p,h2,h3,-⟩|⟨h1,h2⟩
 ·rw[h1]at PF;rw[h3];refine pj func116 ntmps116 results116 ?_;exact bc;all_goals exact ai.refl _
 ·rw[h1]at PF;rw[h2];refine pj func116 ntmps116 results116 ?_;exact bc;all_goals exact ai.refl _
theorem mA (p q:Pfx):([p.at_,p.len]==[q.at_,q.len])=decide (p=q):=by
 rw[Yi];cases p;cases q;simp
def eO (b:Bok)(p:Pol)(l:Lse):Bool:=
 if l.kind==1 then dV l.owner&&(l.till==0)
 else if l.kind==2 then (match bK b l.owner with|some q=>(q.up==p.id)&&(decide (q.root=l.at_)&&(l.till==0))|none=>false)
 else if l.kind==3 then (l.owner==0)&&(decide (l.till>b.tick)&&decide (l.till≤b.tick+1024))else false
theorem Oz (b:Bok)(p:Pol)(l:Lse)(hb:b.pools.length≤1000000000)(hs:m9 b.pools)(ht:0≤b.tick∧b.tick≤1073741824):af prog 94 [.ept (aS b),.ept (ah p),.agg (aV l)] (.v (.bool (eO b p l))):=by
 unfold eO;cases h1:l.kind==1 with
 |true=>
  rw[if_pos rfl];cases h2:dV l.owner with
  |true=>
   have hi:=zj l.owner;rw[h2]at hi;refine pj func94 ntmps94 results94 ?_;exact bc;all_goals exact ai.refl _
  |false=>
   have hi:=zj l.owner;rw[h2]at hi;refine pj func94 ntmps94 results94 ?_;exact bc;all_goals exact ai.refl _
 |false=>
  rw[if_neg (by simp)];cases h2:l.kind==2 with
  |true=>
   rw[if_pos rfl];have hf:=nc b l.owner hb hs;unfold oB at hf;cases hq:bK b l.owner with
   |none=>
    rw[hq]at hf;refine pj func94 ntmps94 results94 ?_;exact bc;all_goals exact ai.refl _
   |some q=>
    rw[hq]at hf;have he:=mA q.root l.at_;cases h3:q.up==p.id<;>cases h4:decide (q.root=l.at_)<;>rw[h4]at he;all_goals
     refine pj func94 ntmps94 results94 ?_;exact bc;all_goals simp only[h3,h4,Yr,Bool.false_and,Bool.and_false]
     all_goals exact ai.refl _
  |false=>
   rw[if_neg (by simp)];have hw:IntKind.i64.wrap (b.tick+1024)=b.tick+1024:=by rw[IntKind.wrap_i64];omega
   cases h3:l.kind==3 with
   |false=>
    rw[if_neg (by simp)];refine pj func94 ntmps94 results94 ?_;exact bc;all_goals exact ai.refl _
   |true=>
    rw[if_pos rfl];cases h4:l.owner==0<;>cases h5:decide (l.till>b.tick);all_goals
     refine pj func94 ntmps94 results94 ?_;exact bc;all_goals exact ai.refl _
def lw (id:Int)(l:Lse):Bool:=(l.kind==2)&&(l.owner==id)
theorem Lc (l:Lse)(p:Pol):af prog 178 [.agg (aV l),.ept [.ept (ah p)]] (.v (.bool (lw p.id l))):=by
 unfold lw;cases h1:l.kind==2;all_goals
  refine pj func178 ntmps178 results178 ?_;exact bc;all_goals exact ai.refl _
def jV (b:Bok):Nat→Pol→Bool
 |0,p=>p.up==0
 |n+1,p=>(p.up==0)||(match bK b p.up with|some q=>q.leases.any (lw p.id)&&jV b n q|none=>false)
theorem Iq {b:Bok}{p:Pol}(n:Nat)(h:(p.up==0)=true):jV b n p=true:=by cases n<;>simp[jV,h]
theorem OA (b:Bok)(p:Pol)(hb:b.pools.length≤8)(hs:m9 b.pools)(hl:∀q∈b.pools,q.leases.length≤1000000000):af prog 91 [.ept (aS b),.ept (ah p)] (.v (.bool (jV b b.pools.length p))):=by
 refine pj func91 ntmps91 results91 ?_;refine am ?_<;>intros;refine bL ae ak (fun m e h=>∃(k:Nat) (q:Pol),k≤b.pools.length∧jV b b.pools.length p=jV b (b.pools.length - k) q∧m=b.pools.length - k∧e=[(12,.d (.v (.int .i64 k))),(11,.d (.v (.int .i64 b.pools.length))),(4,.d (.v (.bool false))),(3,.ptr 0 0),(0,.d (.ept (aS b)))]∧
  h=[.box 147 [.d (.ept (ah q))]]) _ _ _ ⟨0,p,XE _,rfl,rfl,rfl,rfl⟩ (wf) ?_
 rintro m e h ⟨k,q,hk,go,hm,rfl,rfl⟩ CL mO;by_cases hlt:k < b.pools.length
 ·have ew:(k:Int) < (b.pools.length:Int):=by omega
  have cR:=wi k (by omega);obtain⟨j,hj⟩:∃j,b.pools.length - k=j+1:=⟨b.pools.length - k - 1,by omega⟩;rw[hj]at go;replace go:=Xj go;replace hj:=Xj hj;replace hm:=Xj hm;cases h0:q.up==0 with
  |true=>
   refine am ?_<;>intros;rw[go.out,Iq _ h0];exact ai.refl _
  |false=>
   have hf:=nc b q.up (by omega) hs;unfold oB at hf;cases hq:bK b q.up with
   |none=>
    rw[hq]at hf;refine am ?_<;>intros;rw[go.out];simp only[jV,h0,hq,ZT];exact ai.refl _
   |some r=>
    rw[hq]at hf;have hr:r∈b.pools:=YF hq;have ns:=qa k7 (lw q.id) r.leases 178 [.ept [.ept (ah q)]] (hl r hr) (fun x _=>Lc x q);cases ha:r.leases.any (lw q.id)with
    |false=>
     rw[ha]at ns;refine am ?_<;>intros;rw[go.out];simp only[jV,h0,hq,ha,ZT,Bool.false_and];exact ai.refl _
    |true=>
     rw[ha]at ns;refine am ?_<;>intros;refine mO _ _ _ _ _ ?_ ⟨k+1,r,hlt,?_,rfl,rfl,rfl⟩ (wf)
     ·have:=hm.out;omega
     ·rw[go.out];simp only[jV,h0,hq,ha,ZT,Yr];congr 1;have:=hj.out;omega
 ·obtain rfl:k=b.pools.length:=by omega
  rw[YG]at go;replace go:=Xj go;refine am ?_<;>intros;rw[go.out];exact ai.refl _
theorem Ld (b:Bok)(p:Pol)(l:Lse)(hb:b.pools.length≤1000000000)(hs:m9 b.pools)(ht:0≤b.tick∧b.tick≤1073741824):af prog 93 [.agg (aV l),.ept (aS b),.ept [.ept (ah p)]] (.v (.bool (!eO b p l))):=by
 have hl:=Oz b p l hb hs ht;refine pj func93 ntmps93 results93 ?_;exact bc
theorem Le (p:Pol)(q:Pfx):af prog 96 [.agg (aN q),.ept [.ept (ah p)]] (.v (.bool (p.root.meets q))):=by
 have hm:=oZ p.root q;refine pj func96 ntmps96 results96 ?_;exact bc
def ec:Int→List Pol→Bool
 |_,[]=>true
 |last,p::l=>(dV p.id&&(decide (last < p.id)&&((hU p.root (dw p)==0)&&fH p.rule p.root.len)))&&ec p.id l
def dB (b:Bok):List Pol→List Pfx→Bool
 |[],_=>true
 |p::l,roots=>(jV b b.pools.length p&&p.leases.all (eO b p))&&(if p.up==0 then !(roots.any p.root.meets)&&dB b l (roots++[p.root])else dB b l roots)
def aZ (b:Bok):Int:=if b.pools.length>8 then 2 else if b.tick < 0∨b.tick>1073741824 then 1 else if ec 0 b.pools&&dB b b.pools []then 0 else 1
theorem kA:∀(l:List Pol) (last:Int),ec last l=true→m9 l∧∀p∈l,last < p.id
 |[],_,_=>⟨List.Pairwise.nil,fun p h=>by simp at h⟩
 |p::l,last,h=>by
  simp only[ec,Xy,decide_eq_true_eq]at h;obtain⟨h1,h2⟩:=kA l p.id h.2;refine⟨YC.2 ⟨fun q hq=>h2 q hq,h1⟩,fun q hq=>?_⟩;rcases X7.1 hq with rfl|hq
  ·exact h.1.2.1
  ·have:=h2 q hq;have:=h.1.2.1;omega
theorem lJ:∀(l:List Pol) (last:Int),ec last l=true→∀p∈l,dV p.id=true∧hU p.root (dw p)=0∧fH p.rule p.root.len=true
 |p::l,last,h,q,hq=>by
  simp only[ec,Xy,decide_eq_true_eq,beq_iff_eq]at h;rcases X7.1 hq with rfl|hq
  ·exact⟨h.1.1,h.1.2.2.1,h.1.2.2.2⟩
  ·exact lJ l p.id h.2 q hq
theorem jx {α:Type}{l:List α}{k:Nat}{x:α}(h:l[k]? =some x):l.drop k=x::l.drop (k+1):=by
 obtain⟨hk,rfl⟩:=Xn.1 h;exact YQ hk
theorem mB (b:Bok)(hz:∀p∈b.pools,p.leases.length≤3518437208882):af prog 32 [.agg (aS b)] (.v (.int .i64 (aZ b))):=by
 by_cases h8:b.pools.length>8
 ·have Vw:decide ((b.pools.length:Int)>8)=true:=by simp;omega
  have hr:aZ b=2:=by simp[aZ,h8]
  rw[hr];refine pj func32 ntmps32 results32 ?_;exact bc
 ·have Vw:decide ((b.pools.length:Int)>8)=false:=by simp;omega
  by_cases g7:b.tick < 0∨b.tick>1073741824
  ·have hr:aZ b=1:=by simp[aZ,h8,g7]
   rw[hr];rcases g7 with h|h
   ·have h1:decide (b.tick < 0)=true:=by simpa using h
    refine pj func32 ntmps32 results32 ?_;exact bc
   ·have h1:decide (b.tick < 0)=false:=by simp;omega
    have h2:decide (b.tick>1073741824)=true:=by simpa using h
    refine pj func32 ntmps32 results32 ?_;exact bc
  ·have h1:decide (b.tick < 0)=false:=by simp;omega
   have h2:decide (b.tick>1073741824)=false:=by simp;omega
   have ht:0≤b.tick∧b.tick≤1073741824:=by omega
   have hr:aZ b=if ec 0 b.pools&&dB b b.pools []then 0 else 1:=by simp only[aZ,h8,g7,if_false]
   rw[hr];replace hr:=Xj hr;replace ht:=Xj ht;refine pj func32 ntmps32 results32 ?_;refine am ?_<;>intros;refine bL ae ak (fun m e h=>∃(k:Nat) (last:Int),k≤b.pools.length∧ec 0 b.pools=ec last (b.pools.drop k)∧m=b.pools.length - k∧e=[(24,.d (.v (.int .i64 k))),(23,.d (.v (.int .i64 b.pools.length))),(3,.d (.v (.int .i64 last))),(2,.d (.v (.int .i64 0))),(1,.ptr 0 0)]∧
    h=[.box 24 ((aS b).map .d)]) _ _ _ ⟨0,0,XE _,rfl,rfl,rfl,rfl⟩ (wf) ?_
   rintro m e h ⟨k,last,hk,go,hm,rfl,rfl⟩ C hC;by_cases hlt:k < b.pools.length
   ·have ew:(k:Int) < (b.pools.length:Int):=by omega
    have cR:=wi k (by omega);obtain⟨p,hp⟩:∃p,b.pools[k]? =some p:=⟨_,Xk hlt⟩;have oQ:p∈b.pools:=Xl hp;rw[jx hp]at go;simp only[ec]at go;have hi:=zj p.id;have g7:=GC p (hz p oQ);have PG:=Io p.root (dw p);have xg:=E5 p.rule p.root;replace go:=Xj go;replace hm:=Xj hm;repeat' (first|(with_reducible refine And.intro ?_ ?_)|(with_reducible refine cn (fun _=>?_) (fun _=>?_))|(with_reducible refine aA (fun _=>?_) (fun _=>?_))|(with_reducible refine be (by kernel_rfl))|simp -dsimp only[go_sem,seval, *,aS,ah,ew,cR,hp]|((with_reducible refine bf ?_);simp -dsimp only[go_sem,seval,aS,ah,ew,cR,hp];first|refine aC (by first|assumption|exact hi|exact g7|exact PG|exact xg) (by first|exact .inl rfl|exact .inr rfl) ?_|(refine aB (by assumption) ?_ ?_ ?_;(solve|(repeat(first|exact ai.refl _|exact ai.nil _|(refine ai.tup ?_)|(refine ai.agg ?_ rfl)|exact trivial|(refine And.intro ?_ ?_))));(solve|exact .inl rfl|exact .inr rfl)))|fail|omega|exact decide_eq_true (by omega)|exact ai.refl _)
    case' pos.refine_1.refine_2.refine_2.refine_2.refine_1=>
     rename_i q1 q2 q3 q4;refine hC _ _ _ _ _ ?_ ⟨k+1,p.id,hlt,?_,rfl,rfl,rfl⟩ (wf)
     ·have:=hm.out;omega
     ·rw[go.out];have e1:decide (last < p.id)=true:=by simpa using q2
      have e2:(hU p.root (dw p)==0)=true:=by simpa using q3
      rw[q1,e1,e2,q4];rfl
    all_goals
     have hf:ec 0 b.pools=false:=by
      rw[go.out];clear hC hi g7 PG xg hz go hm hr ht;grind
     rw[hf];exact ai.refl _
   ·obtain rfl:k=b.pools.length:=by omega
    rw[Y7]at go;have hf:ec 0 b.pools=true:=by rw[go];rfl
    obtain⟨M5,-⟩:=kA _ _ hf;have fU:=lJ _ _ hf;have nL:∀p∈b.pools,p.leases.length≤32:=fun p hp=>by
     have:=(fU p hp).2.1;unfold hU at this;split at this
     ·cases this
     ·rename_i h;simpa[dw]using h
    rw[hf];replace hf:=Xj hf;replace go:=Xj go;replace hm:=Xj hm;replace fU:=Xj fU;refine am ?_<;>intros;refine bL ae ak (fun m e h=>∃(k g:Nat) (roots:List Pfx),k≤b.pools.length∧dB b b.pools []=dB b (b.pools.drop k) roots∧roots.length≤k∧m=b.pools.length - k∧e=[(71,.d (.v (.int .i64 k))),(70,.d (.v (.int .i64 b.pools.length))),(6,.own 1 g),(2,.d (.v (.int .i64 0))),(1,.ptr 0 0)]∧
     h=[.box 24 ((aS b).map .d),.row 32 2 g (ab (roots.map aN))]) _ _ _ ⟨0,0,[],XE _,rfl,XE _,rfl,rfl,rfl⟩ ((dr (XE _) 6 32 2 rfl).trans (wf)) ?_
    rintro m e h ⟨k,g,roots,hk,uu,zI,hm,rfl,rfl⟩ C hC;by_cases hlt:k < b.pools.length
    ·have ew:(k:Int) < (b.pools.length:Int):=by omega
     have cR:=wi k (by omega);obtain⟨p,hp⟩:∃p,b.pools[k]? =some p:=⟨_,Xk hlt⟩;have oQ:p∈b.pools:=Xl hp;rw[jx hp]at uu;simp only[dB]at uu;have gJ:=OA b p (by omega) M5 (fun q hq=>by have:=nL q hq;omega);have fV:=qa k7 (fun l=>!eO b p l) p.leases 93 [.ept (aS b),.ept [.ept (ah p)]] (by have:=nL p oQ;omega) (fun l _=>Ld b p l (by omega) M5 ht.out);have Vx:=tE B8 p.root.meets roots 96 [.ept [.ept (ah p)]] (by omega) (fun q _=>Le p q);have rS:(roots.length+1)*16≤140737488355328:=by omega
     replace uu:=Xj uu;replace hm:=Xj hm;have bP:p.leases.all (eO b p)=!(p.leases.any fun l=>!eO b p l):=by simp[List.all_eq_not_any_not]
     replace bP:=Xj bP;repeat' (first|(with_reducible refine And.intro ?_ ?_)|(with_reducible refine cn (fun _=>?_) (fun _=>?_))|(with_reducible refine aA (fun _=>?_) (fun _=>?_))|(with_reducible refine be (by kernel_rfl))|simp -dsimp only[go_sem,seval, *,aS,ah,ew,cR,hp]|((with_reducible refine bf ?_);simp -dsimp only[go_sem,seval,aS,ah,ew,cR,hp];first|refine aC (by first|assumption|exact gJ|exact fV|exact Vx) (by first|exact .inl rfl|exact .inr rfl) ?_|(refine aB (by assumption) ?_ ?_ ?_;(solve|(repeat(first|exact ai.refl _|exact ai.nil _|(refine ai.tup ?_)|(refine ai.agg ?_ rfl)|exact trivial|(refine And.intro ?_ ?_))));(solve|exact .inl rfl|exact .inr rfl)))|fail|omega|exact decide_eq_true (by omega)|exact ai.refl _)
     case' pos.refine_1.refine_2.refine_1.refine_2=>
      rename_i q1 q2 q3 q4;refine hC _ _ _ _ _ ?_ ⟨k+1,g+1,roots++[p.root],hlt,?_,by simp;omega,rfl,rfl,rfl⟩ (wf (hh:=(by simp only[aS,Xo,Xm,Xv,aN];rfl)))
      ·have:=hm.out;omega
      ·rw[uu.out,q1,bP.out,q2,if_pos q3,q4];rfl
     case' pos.refine_1.refine_2.refine_2=>
      rename_i q1 q2 q3;refine hC _ _ _ _ _ ?_ ⟨k+1,g,roots,hlt,?_,by omega,rfl,rfl,rfl⟩ (wf)
      ·have:=hm.out;omega
      ·rw[uu.out,q1,bP.out,q2,if_neg (by rw[q3];simp)];rfl
     all_goals
      have Bf:dB b b.pools []=false:=by
       rw[uu.out,bP.out];clear hC gJ fV Vx hz uu hm hr ht bP;grind
      rw[Bf];exact ai.refl _
    ·obtain rfl:k=b.pools.length:=by omega
     rw[Y7]at uu;replace uu:=Xj uu;refine am ?_<;>intros;rw[uu.out];exact ai.refl _
end Go.Proofs.YtmicljipaiohkaaGreat
