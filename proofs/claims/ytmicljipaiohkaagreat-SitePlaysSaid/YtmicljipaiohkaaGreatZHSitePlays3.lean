/- Texts of this work, joined. -/
import Derived.Test.YtmicljipaiohkaaGreatZHSitePlays2
import Derived.Shelf.Slices.SearchI
import Derived.IntWalk
import Derived.RangeFuncNested
import Derived.RangeFuncBound
import Derived.RangeFuncCalls
import Derived.RangeFuncLeaves
import Derived.Shelf.Abstract
import Derived.Shelf.RegionOpen
import Derived.OwnWalkIn
import Derived.TacticsInMore
import Derived.LoopNIn
import Derived.LoopIn
set_option linter.unusedSimpArgs false
set_option linter.unusedVariables false
set_option maxRecDepth 100000
set_option maxHeartbeats 16000000
namespace Go.Proofs.YtmicljipaiohkaaGreat
open Go Go.RowKit Go.Proofs.Tryz
open Go.Lib renaming hid → Xj
open _root_.List renaming getElem?_eq_getElem → Xk, mem_of_getElem? → Xl, map_cons → Xm, getElem?_eq_some_iff → Xn, map_append → Xo, length_take → Xp, setIfInBounds_toArray → Xq, take_length → Xt, map_nil → Xu, set_cons_zero → Xv, set_cons_succ → Xx, getElem?_map → Xz, length_cons → XA, length_map → XC, all_eq_true → XE, pairwise_iff_getElem → XF, findIdx?_eq_some_iff_getElem → XH, length_drop → XI, getElem?_append_right → XK, take_of_length_le → XN, mem_map → XQ, getElem?_take_of_lt → XS, getElem?_eq_none → XT, any_eq_true → XU, replicate → XV, length_append → XY, length_nil → XZ, mem_iff_getElem → X0, mem_append → X2, append_assoc → X3, getElem?_append_left → X4, range → X5, mem_cons → X7, cons_append → X8, eq_nil_of_length_eq_zero → X9, nil_append → Ya, mem_singleton → Yc, mem_of_mem_drop → Yd, take → Yf, mem_of_mem_take → Yg, any_eq_false → Yh, getElem_mem → Ym, findIdx?_eq_none_iff → Yn, find?_eq_none → Yq, set_append_right → Yt, append_nil → Yv, pairwise_cons → YC, mem_of_find?_eq_some → YF, size_toArray → YH, foldl_cons → YO, drop_eq_getElem_cons → YQ, mem_range → YR, pairwise_append → YT, take_append_drop → YX, filter_eq_self → Y0, all_eq_false → Y2, pairwise_map → Y3, drop_length → Y7, mem_map_of_mem → Y8, length_filter_le → Za, length_pos_iff → Zd, find?_some → Zh, filter_filter → Zi, foldl_append → Zn, flatMap_append → Zs, mem_filter → Zt, getElem_take → ZA, append_toArray → ZD, map_take → ZH, contains_iff_mem → ZL, all_append → ZO, mem_append_left → ZP, push_toArray → ZS, filter_congr → Z2, getElem_map → A', nodup_append → N', take_sublist → O'
open Go.World renaming size_alloc → Xr, heap_drewN → Xs, size_drew → Xw, cell? → YS, cell?_of_block → Zl
open _root_.Bool renaming and_eq_true → Xy, eq_iff_iff → Yi, and_self → Yp, true_and → Yr, and_true → YA, false_eq_true → YB, eq_false_iff → YE, or_eq_false_iff → Zm, not_eq_true' → Zz, not_eq_true → ZI, and_eq_false_iff → ZK, false_or → ZT, and_assoc → P'
open _root_.Nat renaming le_refl → XB, zero_le → XD, zero_add → XG, reduceAdd → XM, lt_or_ge → XP, add_zero → XW, sub_zero → Yo, lt_of_lt_of_le → Yx, le_trans → Yy, sub_self → YG, not_lt_zero → YJ, lt_trichotomy → Zb, min_self → Zq, add_assoc → ZF, eq_zero_or_pos → ZJ, div_add_mod → ZN, add_mul → ZQ, reduceLT → ZR, le_of_lt → p', reduceSub → D', lt_or_eq_of_le → G', le_of_lt_succ → Q', one_le_two_pow → Z', not_lt → _g
open _root_.Option renaming map_eq_some_iff → XO, isSome_some → XR, some → XX, map_some → Ye, isNone_some → YD, isSome_none → YZ, isSome_iff_exists → Zf, map_none → Zg, isNone_none → Zk
open _root_.Int renaming dvd_of_emod_eq_zero → YL, lt_irrefl → YN, emod_eq_zero_of_dvd → ZB, le_refl → ZG, fdiv_eq_ediv_of_nonneg → Z5, lt_or_le → z', dvd_trans → C', max_eq_right → _e, max_eq_left → _i
open _root_.Array renaming getElem?_eq_none → YM, getElem?_eq_getElem → YP, replicate → Y5, replicate_succ → Zx, replicate_zero → Zy
def kN (at_:Pfx)(f:Fce):Bool:=cF f.id&&(!((f.addrs.length:Int)==0)&&(fd (fun x=>x) f.addrs&&f.addrs.all (iO at_)))
def dD (s:Sbn):Bool:=s.faces.all (kN s.at_)&&(decide (s.faces.flatMap (·.addrs)).Nodup&&fd (·.id) s.faces)
theorem Kb (n:Int):af prog 233 [.v (.int .i64 n)] (.v (.int .i64 n)):=by
 refine pj func233 ntmps233 results233 ?_;exact aZ
theorem Kc (f:Fce):af prog 235 [.agg (cl f)] (.v (.int .i64 f.id)):=by
 refine pj func235 ntmps235 results235 ?_;exact aZ
def Qc (ents:List (List Int × Int))(done:List Int):Prop:=∀a,kz ents [a]=if a∈done then some 1 else none
theorem FR:Qc [] []:=fun a=>by simp[kz]
theorem BW {ents:List (List Int × Int)}{done:List Int}(h:Qc ents done){a:Int}(ha:a∉done):Qc (l7 ents [a] 1) (done++[a]):=by
 intro b;rw[gR,h b];by_cases hb:a=b
 ·subst hb;simp
 ·have hb':¬b=a:=fun e=>hb e.symm;simp[hb,hb']
theorem pY {l:List Int}{a:Int}:(l++[a]).Nodup↔l.Nodup∧a∉l:=by
 rw[N'];simp;intro _;constructor
 ·intro h hm;exact h a hm rfl
 ·intro h b hb e;subst e;exact h hb
theorem zR (s:Sbn)(h8:s.faces.length≤8)(h4:∀f∈s.faces,f.addrs.length≤4):af prog 185 [.agg (aU s)] (.v (.bool (dD s))):=by
 have Gv:=Eh u9 (·.id) s.faces 235 (by omega) (fun f _=>Kc f);refine pj func185 ntmps185 results185 ?_;refine am ?_<;>intros;refine bL ae ak (fun m e h=>∃(k:Nat) (ents:List (List Int × Int)),k≤s.faces.length∧Qc ents ((s.faces.take k).flatMap (·.addrs))∧((s.faces.take k).flatMap (·.addrs)).Nodup∧(∀f∈s.faces.take k,kN s.at_ f=true)∧m=s.faces.length - k∧
  e=[(12,.d (.v (.int .i64 k))),(11,.d (.v (.int .i64 s.faces.length))),(10,.d (.sl 2 (s.faces.map cl))),(3,.mref 1),(2,.d (.v (.bool false))),(1,.ptr 0 0)]∧h=[.box 71 ((aU s).map .d),.mp 1 false ents]) _ _ _ ⟨0,[],XD _,FR,List.nodup_nil,fun f h=>by simp at h,rfl,rfl,rfl⟩ (wf) ?_
 rintro m e h ⟨k,ents,hk,pm,lf,bP,hm,rfl,rfl⟩ C hC;by_cases hlt:k < s.faces.length
 ·have dH:(k:Int) < (s.faces.length:Int):=by omega
  have cM:=wi k (by omega);obtain⟨f,hf⟩:∃f,s.faces[k]? =some f:=⟨_,Xk hlt⟩;have Du:=Xl hf;have hid:=kL f.id;have wZ:=HA f.addrs 233 (by have:=h4 f Du;omega) Kb;have gS:=h4 f Du;have bH:kN s.at_ f=false→dD s=false:=fun h=>by
   unfold dD;rw[ZK];left;rw[Y2];exact⟨f,Du,by rw[h];simp⟩
  replace bH:=Xj bH;replace hm:=Xj hm;replace pm:=Xj pm;replace lf:=Xj lf;replace bP:=Xj bP;have Ff:kN s.at_ f=(cF f.id&&(!((f.addrs.length:Int)==0)&&(fd (fun x=>x) f.addrs&&f.addrs.all (iO s.at_)))):=rfl;replace Ff:=Xj Ff;cases b1:cF f.id with
  |false=>
   rw[b1]at hid;refine am ?_<;>intros;all_goals(rw[bH.out (by rw[Ff.out,b1];rfl)];exact ai.refl _)
  |true=>
  rw[b1]at hid;cases b2:(f.addrs.length:Int)==0 with
  |true=>
   refine am ?_<;>intros;all_goals(rw[bH.out (by rw[Ff.out,b1,b2];rfl)];exact ai.refl _)
  |false=>
  cases b3:fd (fun x=>x) f.addrs with
  |false=>
   rw[b3]at wZ;refine am ?_<;>intros;all_goals(rw[bH.out (by rw[Ff.out,b1,b2,b3];rfl)];exact ai.refl _)
  |true=>
  rw[b3]at wZ;refine am ?_<;>intros;refine bL ae ak (fun m e h=>∃(j:Nat) (ents:List (List Int × Int)),j≤f.addrs.length∧Qc ents ((s.faces.take k).flatMap (·.addrs)++f.addrs.take j)∧((s.faces.take k).flatMap (·.addrs)++f.addrs.take j).Nodup∧(∀a∈f.addrs.take j,iO s.at_ a=true)∧m=f.addrs.length - j∧
   e=[(35,.d (.v (.int .i64 j))),(34,.d (.v (.int .i64 f.addrs.length))),(33,.d (.sl 1 (f.addrs.map cD))),(12,.d (.v (.int .i64 k))),(11,.d (.v (.int .i64 s.faces.length))),(10,.d (.sl 2 (s.faces.map cl))),(3,.mref 1),(2,.d (.v (.bool false))),(1,.ptr 0 0)]∧h=[.box 71 ((aU s).map .d),.mp 1 false ents]) _ _ _ ⟨0,ents,XD _,by simpa using pm.out,by simpa using lf.out,fun f h=>by simp at h,rfl,rfl,rfl⟩ (wf) ?_
  rintro m2 e h ⟨j,en2,hj,iY,wO,wP,gT,rfl,rfl⟩ C2 jz;by_cases pf:j < f.addrs.length
  ·have ic:(j:Int) < (f.addrs.length:Int):=by omega
   have j6:=wi j (by omega);obtain⟨a,ha⟩:∃a,f.addrs[j]? =some a:=⟨_,Xk pf⟩;have TJ:=Xl ha;have dB:=FP s.at_ a;have QU:=iY a;have gU:f.addrs.take (j+1)=f.addrs.take j++[a]:=ag ha;replace gU:=Xj gU;replace gT:=Xj gT;replace wP:=Xj wP;replace wO:=Xj wO;by_cases hd:a∈(s.faces.take k).flatMap (·.addrs)++f.addrs.take j
   ·rw[if_pos hd]at QU;have hr:dD s=false:=by
     have:¬(s.faces.flatMap (·.addrs)).Nodup:=by
      intro hn;have wI:((s.faces.take k).flatMap (·.addrs)++f.addrs.take (j+1)).Sublist (s.faces.flatMap (·.addrs)):=by
       conv=>rhs;rw[←YX k s.faces,jJ hf,Zs,List.flatMap_cons]
       exact List.Sublist.append (List.Sublist.refl _) ((O' _ _).trans (List.sublist_append_left _ _))
      have:=wI.nodup hn;rw[gU.out,←X3,pY]at this;exact this.2 hd
     unfold dD;simp[this]
    have gj:kz (l7 en2 [a] 2) [a]=some 2:=by rw[gR,if_pos rfl]
    replace iY:=Xj iY;have cA:IntKind.i64.wrap 2=2:=by decide
    have hgt:decide ((2:Int)>1)=true:=rfl;exact aZ;all_goals(rw[hr];exact ai.refl _)
   ·rw[if_neg hd]at QU;have gj:kz (l7 en2 [a] 1) [a]=some 1:=by rw[gR,if_pos rfl]
    have fl:=BW iY hd;replace iY:=Xj iY;replace fl:=Xj fl;have cA:IntKind.i64.wrap 1=1:=by decide
    have hgt:decide ((1:Int)>1)=false:=rfl;cases b4:iO s.at_ a with
    |false=>
     rw[b4]at dB;have hr:dD s=false:=bH.out (by
      rw[Ff.out,b1,b2,b3];have:f.addrs.all (iO s.at_)=false:=by rw[Y2];exact⟨a,TJ,by rw[b4];simp⟩
      rw[this];rfl)
     exact aZ;all_goals(rw[hr];exact ai.refl _)
    |true=>
     rw[b4]at dB;refine am ?_<;>intros;refine jz _ _ _ _ _ ?_ ⟨j+1,l7 en2 [a] 1,pf,?_,?_,?_,rfl,rfl,rfl⟩ (wf)
     ·have:=gT.out;omega
     ·rw[gU.out,←X3];exact fl.out
     ·rw[gU.out,←X3,pY];exact⟨wO.out,hd⟩
     ·intro b hb;rw[gU.out]at hb;rcases X2.1 hb with hb|hb
      ·exact wP.out b hb
      ·rw[Yc.1 hb];exact b4
  ·obtain rfl:j=f.addrs.length:=by omega
   rw[Xt]at iY wO wP;have uc:(s.faces.take (k+1)).flatMap (·.addrs)=(s.faces.take k).flatMap (·.addrs)++f.addrs:=by rw[ag hf,Zs];simp
   replace gT:=Xj gT;replace iY:=Xj iY;replace wO:=Xj wO;replace wP:=Xj wP;replace uc:=Xj uc;refine am ?_<;>intros;refine hC _ _ _ _ _ ?_ ⟨k+1,en2,hlt,?_,?_,?_,rfl,rfl,rfl⟩ (wf)
   ·have:=hm.out;omega
   ·rw[uc.out];exact iY.out
   ·rw[uc.out];exact wO.out
   ·intro g hg;rw[ag hf]at hg;rcases X2.1 hg with hg|hg
    ·exact bP.out g hg
    ·rw[Yc.1 hg,Ff.out,b1,b2,b3];simp only[Yr,Bool.not_false];exact XE.2 wP.out
 ·obtain rfl:k=s.faces.length:=by omega
  rw[Xt]at pm lf bP;have hr:dD s=fd (·.id) s.faces:=by
   unfold dD;rw[XE.2 bP];simp[lf]
  replace hr:=Xj hr;replace pm:=Xj pm;replace lf:=Xj lf;replace bP:=Xj bP;replace hm:=Xj hm;refine am ?_<;>intros;all_goals(rw[hr.out];exact ai.refl _)
def ey (r:Rng):Bool:=cF r.pool&&(chk r.at_.at_ r.at_.len==0)
def ml (v:Vpc)(s:Sbn):Bool:=cF s.id&&(fB v s.at_&&dD s)
def pB (v:Vpc):Bool:=(cF v.id&&(fd (·.at_.at_) v.ranges&&fd (·.id) v.subs))&&(v.ranges.all ey&&v.subs.all (ml v))
def bN (v:Vpc):Int:=if kM v then 2 else if pB v&&(gw [] (v.ranges.map (·.at_))&&gw [] (v.subs.map (·.at_)))then 0 else 1
theorem HB (r:Rng):af prog 182 [.agg (bv r)] (.v (.int .i64 r.at_.at_)):=by
 refine pj func182 ntmps182 results182 ?_;exact aZ
theorem HC (s:Sbn):af prog 184 [.agg (aU s)] (.v (.int .i64 s.id)):=by
 refine pj func184 ntmps184 results184 ?_;exact aZ
theorem kO {α:Type}{p:α→Bool}{l:List α}{k:Nat}{x:α}(h:l[k]? =some x):(l.take (k+1)).all p=((l.take k).all p&&p x):=by
 rw[ag h,ZO];simp
theorem og (v:Vpc):af prog 97 [.agg (al v)] (.v (.int .i64 (bN v))):=by
 have sR:=Qb v;cases hm:kM v with
 |true=>
  rw[hm]at sR;have hr:bN v=2:=by unfold bN;rw[if_pos hm]
  rw[hr];refine pj func97 ntmps97 results97 ?_;exact aZ
 |false=>
 obtain⟨h4,h6,h8⟩:=vt hm;rw[hm]at sR;have hid:=kL v.id;have rR:=BV md (fun r:Rng=>r.at_.at_) v.ranges 182 (by omega) (fun r _=>HB r);have j5:=Hz mc (fun s:Sbn=>s.id) v.subs 184 (by omega) (fun r _=>HC r);obtain⟨F0,QV⟩:∃F0,F0=(cF v.id&&(fd (·.at_.at_) v.ranges&&fd (·.id) v.subs)):=⟨_,rfl⟩;have AC:=FQ (v.ranges.map (·.at_)) (by rw[XC];omega);have AD:=FQ (v.subs.map (·.at_)) (by rw[XC];omega);have qh:bN v=if (F0&&v.ranges.all ey&&v.subs.all (ml v))&&(gw [] (v.ranges.map (·.at_))&&gw [] (v.subs.map (·.at_)))then 0 else 1:=by
  unfold bN pB;rw[if_neg (by simp[hm]),QV];simp only[P']
 rw[qh];replace qh:=Xj qh;replace h8:=Xj h8;replace hm:=Xj hm;replace sR:=Xj sR;cases b1:cF v.id with
 |false=>
  rw[b1,Bool.false_and]at QV;subst QV;rw[b1]at hid;refine pj func97 ntmps97 results97 ?_;have z1z:=sR.out;have z2z:=sR.out;refine am ?_<;>intros;refine bL ae ak (fun m e h=>∃(k g:Nat) (X:Bool),k≤v.ranges.length∧X=(false&&(v.ranges.take k).all ey)∧m=v.ranges.length - k∧e=[(28,.d (.v (.int .i64 k))),(27,.d (.v (.int .i64 v.ranges.length))),(26,.d (.sl 3 (v.ranges.map bv))),(5,.d (.v (.bool X))),(4,.d (.v (.slice none 0 0))),(3,.own 1 g),(2,.d (.v (.int .i64 0))),(1,.ptr 0 0)]∧
   h=[.box 55 ((al v).map .d),.row 32 2 g (ab (((v.ranges.take k).map (·.at_)).map aN))]) _ _ _ ⟨0,0,false,XD _,by simp,rfl,rfl,rfl⟩ ((cS (XD _) 3 32 2 rfl).trans (wf)) ?_
  rintro m e h ⟨k,g,X,hk,hX,hm0,rfl,rfl⟩ C hC;by_cases hlt:k < v.ranges.length
  ·have dH:(k:Int) < (v.ranges.length:Int):=by omega
   have cM:=wi k (by omega);obtain⟨r,hr⟩:∃r,v.ranges[k]? =some r:=⟨_,Xk hlt⟩;have Dq:=kL r.pool;have SW:=qS r.at_;have i4:(Yf k v.ranges).length=k:=by rw[Xp];omega
   have rI:(k+1)*16≤140737488355328:=by omega
   have pg:=kO (p:=ey) hr;have pn:ey r=(cF r.pool&&(chk r.at_.at_ r.at_.len==0)):=rfl;generalize chk r.at_.at_ r.at_.len=K at*;generalize cF r.pool=I at*;replace hX:=Xj hX;replace pg:=Xj pg;replace pn:=Xj pn;replace hm0:=Xj hm0;replace hr:=Xj hr;have SX:=hr.out;refine zO ?_ ?_ ?_<;>intros;all_goals(refine hC _ _ _ _ _ ?_ ⟨k+1,g+1,_,hlt,?_,rfl,rfl,rfl⟩ (wf (hh:=(by rw[ag hr.out];simp only[al,Xo,Xm,Xu,aN,←aI];rfl))))
   all_goals first
    |(have:=hm0.out;omega)
    |(have h1:=hX.out;have h2:=pg.out;have h3:=pn.out;clear AC AD rR j5 hid Dq SW hC sR;grind)
  ·obtain rfl:k=v.ranges.length:=by omega
   rw[Xt]at hX ⊢;replace hX:=Xj hX;replace hm0:=Xj hm0;refine am ?_<;>intros;refine bL ae ak (fun m e h=>∃(k g2:Nat) (Y:Bool),k≤v.subs.length∧Y=(X&&(v.subs.take k).all (ml v))∧m=v.subs.length - k∧e=[(53,.d (.v (.int .i64 k))),(52,.d (.v (.int .i64 v.subs.length))),(51,.d (.sl 4 (v.subs.map aU))),(5,.d (.v (.bool Y))),(4,.own 2 g2),(3,.own 1 g),(2,.d (.v (.int .i64 0))),(1,.ptr 0 0)]∧
    h=[.box 55 ((al v).map .d),.row 32 2 g (ab ((v.ranges.map (·.at_)).map aN)),.row 32 2 g2 (ab (((v.subs.take k).map (·.at_)).map aN))]) _ _ _ ⟨0,0,X,XD _,by simp,rfl,rfl,rfl⟩ ((cS (XD _) 4 32 2 rfl).trans (wf)) ?_
   rintro m2 e h ⟨k,g2,Y,iV,hY,gT,rfl,rfl⟩ C hC;by_cases hlt:k < v.subs.length
   ·have dH:(k:Int) < (v.subs.length:Int):=by omega
    have cM:=wi k (by omega);obtain⟨s,hs⟩:∃s,v.subs[k]? =some s:=⟨_,Xk hlt⟩;have kq:=Xl hs;have DM:=kL s.id;have PC:=qW v s.at_ (by omega);have SY:=zR s (h8.out s kq).1 (h8.out s kq).2;have i4:(Yf k v.subs).length=k:=by rw[Xp];omega
    have rI:(k+1)*16≤140737488355328:=by omega
    have pg:=kO (p:=ml v) hs;have xJ:ml v s=(cF s.id&&(fB v s.at_&&dD s)):=rfl;generalize fB v s.at_=H at*;generalize cF s.id=I at*;generalize dD s=F at*;replace hY:=Xj hY;replace pg:=Xj pg;replace xJ:=Xj xJ;replace gT:=Xj gT;replace hs:=Xj hs;have SZ:=hs.out;refine RE ?_ ?_ ?_ ?_<;>intros;all_goals(refine hC _ _ _ _ _ ?_ ⟨k+1,g2+1,_,hlt,?_,rfl,rfl,rfl⟩ (wf (hh:=(by rw[ag hs.out];simp only[al,Xo,Xm,Xu,aN,←aI];rfl))))
    all_goals first
     |(have:=gT.out;omega)
     |(have h1:=hY.out;have h2:=pg.out;have h3:=xJ.out;clear AC AD rR j5 hid DM PC SY hC sR;grind)
   ·obtain rfl:k=v.subs.length:=by omega
    rw[Xt]at hY ⊢;replace hY:=Xj hY;replace gT:=Xj gT;have QW:gw [] (v.ranges.map (·.at_))=gw [] (v.ranges.map (·.at_)):=rfl;generalize PD:gw [] (v.ranges.map (·.at_))=A1 at*;generalize I5:gw [] (v.subs.map (·.at_))=A2 at*;replace PD:=Xj PD;replace I5:=Xj I5;clear QW;refine am ?_<;>intros;all_goals
     have h1:=hX.out;have h2:=hY.out;clear AC AD rR j5 hid hC sR;first
      |exact ai.refl _
      |(rw[if_pos (by grind)];exact ai.refl _)
      |(rw[if_neg (by grind)];exact ai.refl _)
      |(exfalso;grind)
 |true=>
  rw[b1]at hid;cases b2:fd (fun r:Rng=>r.at_.at_) v.ranges with
  |false=>
   rw[b1,b2,Bool.false_and,Bool.and_false]at QV;subst QV;rw[b2]at rR;refine pj func97 ntmps97 results97 ?_;have z1z:=sR.out;refine am ?_<;>intros;refine bL ae ak (fun m e h=>∃(k g:Nat) (X:Bool),k≤v.ranges.length∧X=(false&&(v.ranges.take k).all ey)∧m=v.ranges.length - k∧e=[(28,.d (.v (.int .i64 k))),(27,.d (.v (.int .i64 v.ranges.length))),(26,.d (.sl 3 (v.ranges.map bv))),(5,.d (.v (.bool X))),(4,.d (.v (.slice none 0 0))),(3,.own 1 g),(2,.d (.v (.int .i64 0))),(1,.ptr 0 0)]∧
    h=[.box 55 ((al v).map .d),.row 32 2 g (ab (((v.ranges.take k).map (·.at_)).map aN))]) _ _ _ ⟨0,0,false,XD _,by simp,rfl,rfl,rfl⟩ ((cS (XD _) 3 32 2 rfl).trans (wf)) ?_
   rintro m e h ⟨k,g,X,hk,hX,hm0,rfl,rfl⟩ C hC;by_cases hlt:k < v.ranges.length
   ·have dH:(k:Int) < (v.ranges.length:Int):=by omega
    have cM:=wi k (by omega);obtain⟨r,hr⟩:∃r,v.ranges[k]? =some r:=⟨_,Xk hlt⟩;have Dq:=kL r.pool;have SW:=qS r.at_;have i4:(Yf k v.ranges).length=k:=by rw[Xp];omega
    have rI:(k+1)*16≤140737488355328:=by omega
    have pg:=kO (p:=ey) hr;have pn:ey r=(cF r.pool&&(chk r.at_.at_ r.at_.len==0)):=rfl;generalize chk r.at_.at_ r.at_.len=K at*;generalize cF r.pool=I at*;replace hX:=Xj hX;replace pg:=Xj pg;replace pn:=Xj pn;replace hm0:=Xj hm0;replace hr:=Xj hr;have SX:=hr.out;refine zO ?_ ?_ ?_<;>intros;all_goals(refine hC _ _ _ _ _ ?_ ⟨k+1,g+1,_,hlt,?_,rfl,rfl,rfl⟩ (wf (hh:=(by rw[ag hr.out];simp only[al,Xo,Xm,Xu,aN,←aI];rfl))))
    all_goals first
     |(have:=hm0.out;omega)
     |(have h1:=hX.out;have h2:=pg.out;have h3:=pn.out;clear AC AD rR j5 hid Dq SW hC sR;grind)
   ·obtain rfl:k=v.ranges.length:=by omega
    rw[Xt]at hX ⊢;replace hX:=Xj hX;replace hm0:=Xj hm0;refine am ?_<;>intros;refine bL ae ak (fun m e h=>∃(k g2:Nat) (Y:Bool),k≤v.subs.length∧Y=(X&&(v.subs.take k).all (ml v))∧m=v.subs.length - k∧e=[(53,.d (.v (.int .i64 k))),(52,.d (.v (.int .i64 v.subs.length))),(51,.d (.sl 4 (v.subs.map aU))),(5,.d (.v (.bool Y))),(4,.own 2 g2),(3,.own 1 g),(2,.d (.v (.int .i64 0))),(1,.ptr 0 0)]∧
     h=[.box 55 ((al v).map .d),.row 32 2 g (ab ((v.ranges.map (·.at_)).map aN)),.row 32 2 g2 (ab (((v.subs.take k).map (·.at_)).map aN))]) _ _ _ ⟨0,0,X,XD _,by simp,rfl,rfl,rfl⟩ ((cS (XD _) 4 32 2 rfl).trans (wf)) ?_
    rintro m2 e h ⟨k,g2,Y,iV,hY,gT,rfl,rfl⟩ C hC;by_cases hlt:k < v.subs.length
    ·have dH:(k:Int) < (v.subs.length:Int):=by omega
     have cM:=wi k (by omega);obtain⟨s,hs⟩:∃s,v.subs[k]? =some s:=⟨_,Xk hlt⟩;have kq:=Xl hs;have DM:=kL s.id;have PC:=qW v s.at_ (by omega);have SY:=zR s (h8.out s kq).1 (h8.out s kq).2;have i4:(Yf k v.subs).length=k:=by rw[Xp];omega
     have rI:(k+1)*16≤140737488355328:=by omega
     have pg:=kO (p:=ml v) hs;have xJ:ml v s=(cF s.id&&(fB v s.at_&&dD s)):=rfl;generalize fB v s.at_=H at*;generalize cF s.id=I at*;generalize dD s=F at*;replace hY:=Xj hY;replace pg:=Xj pg;replace xJ:=Xj xJ;replace gT:=Xj gT;replace hs:=Xj hs;have SZ:=hs.out;refine RE ?_ ?_ ?_ ?_<;>intros;all_goals(refine hC _ _ _ _ _ ?_ ⟨k+1,g2+1,_,hlt,?_,rfl,rfl,rfl⟩ (wf (hh:=(by rw[ag hs.out];simp only[al,Xo,Xm,Xu,aN,←aI];rfl))))
     all_goals first
      |(have:=gT.out;omega)
      |(have h1:=hY.out;have h2:=pg.out;have h3:=xJ.out;clear AC AD rR j5 hid DM PC SY hC sR;grind)
    ·obtain rfl:k=v.subs.length:=by omega
     rw[Xt]at hY ⊢;replace hY:=Xj hY;replace gT:=Xj gT;have QW:gw [] (v.ranges.map (·.at_))=gw [] (v.ranges.map (·.at_)):=rfl;generalize PD:gw [] (v.ranges.map (·.at_))=A1 at*;generalize I5:gw [] (v.subs.map (·.at_))=A2 at*;replace PD:=Xj PD;replace I5:=Xj I5;clear QW;refine am ?_<;>intros;all_goals
      have h1:=hX.out;have h2:=hY.out;clear AC AD rR j5 hid hC sR;first
       |exact ai.refl _
       |(rw[if_pos (by grind)];exact ai.refl _)
       |(rw[if_neg (by grind)];exact ai.refl _)
       |(exfalso;grind)
  |true=>
   rw[b1,b2,Yr,Yr]at QV;subst QV;rw[b2]at rR;generalize fd (fun s:Sbn=>s.id) v.subs=F0 at*;refine pj func97 ntmps97 results97 ?_;have z1z:=sR.out;refine am ?_<;>intros;refine bL ae ak (fun m e h=>∃(k g:Nat) (X:Bool),k≤v.ranges.length∧X=(F0&&(v.ranges.take k).all ey)∧m=v.ranges.length - k∧e=[(28,.d (.v (.int .i64 k))),(27,.d (.v (.int .i64 v.ranges.length))),(26,.d (.sl 3 (v.ranges.map bv))),(5,.d (.v (.bool X))),(4,.d (.v (.slice none 0 0))),(3,.own 1 g),(2,.d (.v (.int .i64 0))),(1,.ptr 0 0)]∧
    h=[.box 55 ((al v).map .d),.row 32 2 g (ab (((v.ranges.take k).map (·.at_)).map aN))]) _ _ _ ⟨0,0,F0,XD _,by simp,rfl,rfl,rfl⟩ ((cS (XD _) 3 32 2 rfl).trans (wf)) ?_
   rintro m e h ⟨k,g,X,hk,hX,hm0,rfl,rfl⟩ C hC;by_cases hlt:k < v.ranges.length
   ·have dH:(k:Int) < (v.ranges.length:Int):=by omega
    have cM:=wi k (by omega);obtain⟨r,hr⟩:∃r,v.ranges[k]? =some r:=⟨_,Xk hlt⟩;have Dq:=kL r.pool;have SW:=qS r.at_;have i4:(Yf k v.ranges).length=k:=by rw[Xp];omega
    have rI:(k+1)*16≤140737488355328:=by omega
    have pg:=kO (p:=ey) hr;have pn:ey r=(cF r.pool&&(chk r.at_.at_ r.at_.len==0)):=rfl;generalize chk r.at_.at_ r.at_.len=K at*;generalize cF r.pool=I at*;replace hX:=Xj hX;replace pg:=Xj pg;replace pn:=Xj pn;replace hm0:=Xj hm0;replace hr:=Xj hr;have SX:=hr.out;refine zO ?_ ?_ ?_<;>intros;all_goals(refine hC _ _ _ _ _ ?_ ⟨k+1,g+1,_,hlt,?_,rfl,rfl,rfl⟩ (wf (hh:=(by rw[ag hr.out];simp only[al,Xo,Xm,Xu,aN,←aI];rfl))))
    all_goals first
     |(have:=hm0.out;omega)
     |(have h1:=hX.out;have h2:=pg.out;have h3:=pn.out;clear AC AD rR j5 hid Dq SW hC sR;grind)
   ·obtain rfl:k=v.ranges.length:=by omega
    rw[Xt]at hX ⊢;replace hX:=Xj hX;replace hm0:=Xj hm0;refine am ?_<;>intros;refine bL ae ak (fun m e h=>∃(k g2:Nat) (Y:Bool),k≤v.subs.length∧Y=(X&&(v.subs.take k).all (ml v))∧m=v.subs.length - k∧e=[(53,.d (.v (.int .i64 k))),(52,.d (.v (.int .i64 v.subs.length))),(51,.d (.sl 4 (v.subs.map aU))),(5,.d (.v (.bool Y))),(4,.own 2 g2),(3,.own 1 g),(2,.d (.v (.int .i64 0))),(1,.ptr 0 0)]∧
     h=[.box 55 ((al v).map .d),.row 32 2 g (ab ((v.ranges.map (·.at_)).map aN)),.row 32 2 g2 (ab (((v.subs.take k).map (·.at_)).map aN))]) _ _ _ ⟨0,0,X,XD _,by simp,rfl,rfl,rfl⟩ ((cS (XD _) 4 32 2 rfl).trans (wf)) ?_
    rintro m2 e h ⟨k,g2,Y,iV,hY,gT,rfl,rfl⟩ C hC;by_cases hlt:k < v.subs.length
    ·have dH:(k:Int) < (v.subs.length:Int):=by omega
     have cM:=wi k (by omega);obtain⟨s,hs⟩:∃s,v.subs[k]? =some s:=⟨_,Xk hlt⟩;have kq:=Xl hs;have DM:=kL s.id;have PC:=qW v s.at_ (by omega);have SY:=zR s (h8.out s kq).1 (h8.out s kq).2;have i4:(Yf k v.subs).length=k:=by rw[Xp];omega
     have rI:(k+1)*16≤140737488355328:=by omega
     have pg:=kO (p:=ml v) hs;have xJ:ml v s=(cF s.id&&(fB v s.at_&&dD s)):=rfl;generalize fB v s.at_=H at*;generalize cF s.id=I at*;generalize dD s=F at*;replace hY:=Xj hY;replace pg:=Xj pg;replace xJ:=Xj xJ;replace gT:=Xj gT;replace hs:=Xj hs;have SZ:=hs.out;refine RE ?_ ?_ ?_ ?_<;>intros;all_goals(refine hC _ _ _ _ _ ?_ ⟨k+1,g2+1,_,hlt,?_,rfl,rfl,rfl⟩ (wf (hh:=(by rw[ag hs.out];simp only[al,Xo,Xm,Xu,aN,←aI];rfl))))
     all_goals first
      |(have:=gT.out;omega)
      |(have h1:=hY.out;have h2:=pg.out;have h3:=xJ.out;clear AC AD rR j5 hid DM PC SY hC sR;grind)
    ·obtain rfl:k=v.subs.length:=by omega
     rw[Xt]at hY ⊢;replace hY:=Xj hY;replace gT:=Xj gT;have QW:gw [] (v.ranges.map (·.at_))=gw [] (v.ranges.map (·.at_)):=rfl;generalize PD:gw [] (v.ranges.map (·.at_))=A1 at*;generalize I5:gw [] (v.subs.map (·.at_))=A2 at*;replace PD:=Xj PD;replace I5:=Xj I5;clear QW;refine wX ?_ ?_<;>intros;all_goals
      have h1:=hX.out;have h2:=hY.out;clear AC AD rR j5 hid hC sR;first
       |exact ai.refl _
       |(rw[if_pos (by grind)];exact ai.refl _)
       |(rw[if_neg (by grind)];exact ai.refl _)
       |(exfalso;grind)
def ci (s:Sbn)(v:PV):List PV:=[.d (.v (.int .i64 s.id)),.d (.v (.int .i64 s.at_.at_)),.d (.v (.int .i64 s.at_.len)),v]
def d6 (f:Fce)(v:PV):List PV:=[.d (.v (.int .i64 f.id)),v]
def eR {α:Type}(enc:α→List D)(pre:List α)(r:List PV)(post:List α):List (List PV):=ab (pre.map enc)++r::ab (post.map enc)
section
variable {α:Type}{enc:α→List D}
@[go_sem] theorem qX (pre:List α)(r:List PV)(post:List α):(eR enc pre r post).length=pre.length+1+post.length:=by
 simp[eR,aF];omega
theorem vu (n:Nat):∀(l m:List (List PV)),cC n (l++m)=(cC n l&&cC n m)
 |[],m=>rfl
 |r::l,m=>by simp only[X8,cC,vu n l m,P']
theorem BX (n:Nat)(pre:List α)(r:List PV)(post:List α):cC n (eR enc pre r post)=an n r:=by
 simp only[eR,vu,cC,az,Yr,YA]
theorem cI {A:Prop}(h:A:=by first|rfl|simp only[aH,eh,aQ,an,cC,aq,bn,az,BX,ci,d6,XA,XZ,XM,ZR,decide_true,Yp,YA]):A:=h
theorem cV (k g:Nat)(d:D)(pre:List α)(r:List PV)(post:List α):f5 k g d (eR enc pre r post)=eR enc pre (gr k g d r) post:=by
 simp only[eR,aR,f5,bR]
theorem kD (pre:List α)(r:List PV)(post:List α)(q:α):eR enc pre r post++[(enc q).map .d]=eR enc pre r (post++[q]):=by
 simp[eR,ab]
@[go_sem] theorem iy (ρ:Nat→Nat)(pre:List α)(r:List PV)(post:List α):jE ρ (eR enc pre r post)=eR enc pre (iJ ρ r) post:=by
 have app:∀(l m:List (List PV)),jE ρ (l++m)=jE ρ l++jE ρ m:=by
  intro l m;rw[eH,eH,eH,Xo]
 simp only[eR,app,jE,uN]
theorem yz (f:PV→Option D):∀(l m:List (List PV)),da f (l++m)=match da f l,da f m with|some a,some b=>some (a++b)|_,_=>none
 |[],m=>by simp only[Ya,da];cases da f m<;>rfl
 |r::l,m=>by
  simp only[X8,da,yz f l m];cases cJ f r<;>cases da f l<;>cases da f m<;>rfl
@[go_sem] theorem mV (h:Nat→Chunk)(n:Nat)(pre:List α)(r:List PV)(post:List α):da (bp h n) (eR enc pre r post)=match cJ (bp h n) r with|some d=>some (pre.map enc++d::post.map enc)|none=>none:=by
 simp only[eR,yz,da,eG];cases cJ (bp h n) r<;>rfl
@[go_sem] theorem qY (pre:List α)(r:List PV)(post:List α):(eR enc pre r post)[pre.length]? =some r:=by
 unfold eR;rw[XK (by simp[aF])];simp[aF]
@[go_sem] theorem BY (pre:List α)(r r':List PV)(post:List α):(eR enc pre r post).set pre.length r'=eR enc pre r' post:=by
 unfold eR;rw[Yt _ _ (by simp[aF])];simp[aF]
end
def df {α:Type}(key:α→Int)(x:α)(l:List α):List α:=l.take (i8 key (key x) l)++x::l.drop (i8 key (key x) l)
theorem Qd {α:Type}(key:α→Int)(t:Int)(l:List α):i8 key t l≤l.length:=List.findIdx_le_length
theorem fY {α:Type}(key:α→Int)(x:α)(l:List α):(df key x l).Perm (l++[x]):=by
 unfold df;have h:l++[x]=(l.take (i8 key (key x) l)++l.drop (i8 key (key x) l))++[x]:=by rw[YX]
 rw[h,X3];refine List.Perm.append_left _ ?_;exact(List.perm_append_singleton _ _).symm
theorem mn {α:Type}{key:α→Int}{x y:α}{l:List α}:y∈df key x l↔y=x∨y∈l:=by
 rw[(fY key x l).mem_iff];simp[or_comm]
theorem fe {α:Type}(key:α→Int)(x:α)(l:List α):(df key x l).length=l.length+1:=by
 rw[(fY key x l).length_eq];simp
theorem gx {α:Type}{key:α→Int}{x:α}{l:List α}(hs:l.Pairwise fun a b=>key a < key b)(hn:∀y∈l,key y≠key x):(df key x l).Pairwise fun a b=>key a < key b:=by
 have xI:∀y∈l.take (i8 key (key x) l),key y < key x:=by
  intro y hy;obtain⟨i,hi,rfl⟩:=X0.1 hy;rw[ZA];have:=List.not_of_lt_findIdx (show i < i8 key (key x) l by rw[Xp]at hi;omega);simp at this;exact this
 have GC:∀y∈l.drop (i8 key (key x) l),key x < key y:=by
  intro y hy;have Fg:=Yd hy;obtain⟨i,hi,rfl⟩:=X0.1 hy;rw[List.getElem_drop]at Fg ⊢;rw[XI]at hi;have hlt:i8 key (key x) l < l.length:=by omega
  have h0:=List.findIdx_getElem (xs:=l) (p:=fun y=>decide (key x≤key y)) (w:=hlt);simp only[decide_eq_true_eq]at h0;change key x≤key (l[i8 key (key x) l]'hlt)at h0;have bB:=hn _ Fg;rcases ZJ i with h|h
  ·subst h;simp only[XW]at bB ⊢;omega
  ·have:=XF.1 hs _ (i8 key (key x) l+i) hlt (by omega) (by omega);omega
 unfold df;rw[YT,YC];refine⟨hs.sublist (O' _ _),⟨GC,hs.sublist (List.drop_sublist _ _)⟩,fun a ha b hb=>?_⟩;rcases X7.1 hb with rfl|hb
 ·exact xI a ha
 ·have:=xI a ha;have:=GC b hb;omega
def Vpc.zero:Vpc:=⟨0,[],[]⟩
theorem Vpc.zero_le:ai (.agg [.v (.int .i64 0),.v (.slice none 0 0),.v (.slice none 0 0)]) (.agg (al Vpc.zero)):=by repeat(first|exact ai.refl _|exact ai.nil _|(refine ai.tup ?_)|(refine ai.agg ?_ rfl)|exact trivial|(refine And.intro ?_ ?_))
structure VpcOK (v:Vpc):Prop where
 n4:v.ranges.length≤4
 n6:v.subs.length≤6
 n8:∀s∈v.subs,s.faces.length≤8∧∀f∈s.faces,f.addrs.length≤4
 id:cF v.id=true
 rr:v.ranges.Pairwise fun a b=>a.at_.at_ < b.at_.at_
 rs:v.subs.Pairwise fun a b=>a.id < b.id
 ranges:∀r∈v.ranges,ey r=true
 subs:∀s∈v.subs,ml v s=true
 ar:gw [] (v.ranges.map (·.at_))=true
 as_:gw [] (v.subs.map (·.at_))=true
theorem Kd {v:Vpc}:bN v=0↔kM v=false∧pB v=true∧gw [] (v.ranges.map (·.at_))=true∧gw [] (v.subs.map (·.at_))=true:=by
 unfold bN;generalize gw [] (v.ranges.map (·.at_))=A;generalize gw [] (v.subs.map (·.at_))=B;cases kM v<;>cases pB v<;>cases A<;>cases B<;>simp
theorem aY {v:Vpc}(h:bN v=0):VpcOK v:=by
 obtain⟨h1,h2,h3,h4⟩:=Kd.1 h;obtain⟨a,b,c⟩:=vt h1;unfold pB at h2;simp only[Xy,XE,fX]at h2;exact⟨a,b,c,h2.1.1,h2.1.2.1,h2.1.2.2,h2.2.1,h2.2.2,h3,h4⟩
theorem kj {r:Rng}(h:ey r=true):r.at_.right=true:=by
 unfold ey at h;simp only[Xy,beq_iff_eq]at h;simp[Pfx.right,bE,h.2]
theorem vv {p q:Pfx}(hp:p.right=true)(hq:q.right=true)(h:p.meets q=false):p.at_≠q.at_:=fun e=>by
 have b1:=p.hi_bd hp;have b2:=q.hi_bd hq;rw[dQ.2 ⟨hp,hq,by omega,by omega⟩]at h;cases h
def lC (v:Vpc)(r:Rng):Int:=
 if chk r.at_.at_ r.at_.len≠0∨cF r.pool=false then 1 else
 if (v.ranges.any fun q=>q.at_.meets r.at_)=true then 6 else if v.ranges.length=4 then 2 else 0
def cH (v:Vpc)(r:Rng):Vpc × Int:=
 if bN v≠0 then (Vpc.zero,bN v)else if lC v r≠0 then (Vpc.zero,lC v r)else ({v with ranges:=df (·.at_.at_) r v.ranges},0)
theorem fZ (n lo hi:Int):af prog 75 [.v (.int .i64 n),.v (.int .i64 lo),.v (.int .i64 hi)] (.v (.bool (decide (lo≤n)&&decide (n≤hi)))):=by
 refine pj func75 ntmps75 results75 ?_;exact aZ;all_goals exact FO (by grind)
theorem vx {α:Type}{p:α→Bool}{l:List α}{k:Nat}{x:α}(hx:l[k]? =some x)(hp:p x=true)(cf:(l.take k).all (fun y=>!p y)=true):cv p l=k:=
 fV hx hp fun y hy=>by have:=XE.1 cf y hy;simpa using this
theorem zS {α:Type}{p:α→Bool}{l:List α}(cf:(l.take l.length).all (fun y=>!p y)=true):cv p l= -1:=
 fW fun y hy=>by rw[Xt]at cf;have:=XE.1 cf y hy;simpa using this
theorem d7 {α:Type}{p:α→Bool}{l:List α}{k:Nat}{x:α}(hx:l[k]? =some x)(cf:(l.take k).all p=true)(h:p x=true):(l.take (k+1)).all p=true:=by rw[kO hx,cf,h];rfl
theorem yA (v:Vpc)(p:Pfx)(hl:v.ranges.length≤1000000000):af prog 192 [.agg (al v),.agg (aN p)] (.v (.bool (fB v p))):=by
 obtain⟨R,hR⟩:∃R,R=fB v p:=⟨_,rfl⟩;rw[←hR];replace hR:=Xj hR;refine pj func192 ntmps192 results192 ?_;refine am ?_<;>intros;refine bg ae ak v.ranges (fun k=>(v.ranges.take k).all (fun r=>!(dL p r.at_))=true) (fun k=>[(5,.d (.v (.int .i64 k))),(4,.d (.v (.bool false))),(3,.ptr 1 0),(2,.ptr 0 0)]) (fun _=>[.box 55 ((al v).map .d),.box 32 ((aN p).map .d)]) rfl (wf) ?_ ?_
 ·intro k r hr hk hI C hC;have dH:(k:Int) < (v.ranges.length:Int):=by omega
  have cM:=wi k (by omega);have hi:=vr p r.at_;rw[um]at hi;replace hI:=Xj hI;cases h1:dL p r.at_ with
  |true=>
   rw[h1]at hi;have hb:R=true:=by rw[hR.out];exact XU.2 ⟨r,Xl hr,h1⟩
   rw[hb];replace hb:=Xj hb;exact aZ;all_goals exact ai.refl _
  |false=>
   rw[h1]at hi;have lS:=Xj (d7 (p:=fun r:Rng=>!(dL p r.at_)) hr hI.out (by rw[h1];rfl));refine am ?_<;>intros;exact hC _ _ lS.out (wf)
 ·intro hI C;rw[Xt]at hI;have hb:R=false:=by rw[hR.out];unfold fB;rw[Yh];intro x hx;have:=XE.1 hI x hx;simpa using this
  rw[hb];replace hb:=Xj hb;replace hI:=Xj hI;exact aZ;all_goals exact ai.refl _
theorem BZ (s:Sbn)(x:Int):af prog 241 [.agg (aU s),.v (.int .i64 x)] (.v (.bool (iO s.at_ x))):=by
 have hh:af prog 224 [.agg (aN s.at_),.v (.int .i64 x)] (.v (.bool (kJ s.at_.at_ s.at_.len x))):=Hy s.at_ x;cases h1:kJ s.at_.at_ s.at_.len x with
 |false=>
  have hr:iO s.at_ x=false:=by unfold iO;rw[oe,h1];rfl
  rw[h1]at hh;rw[hr];refine pj func241 ntmps241 results241 ?_;exact aZ;all_goals exact ai.refl _
 |true=>
  have Dv:=mi.1 h1;have nm:=J7 s.at_ (by rw[←Pfx.right];exact Dv.1);have Uy:kI s.at_.at_ s.at_.len=s.at_.hi - 1:=rfl;have hr:iO s.at_ x=((x !=s.at_.at_)&&(x !=s.at_.hi - 1)):=by
   unfold iO;rw[oe,h1,Yr,Yi];have:s.at_.hi=s.at_.at_+eD s.at_.len:=rfl;simp only[Xy,decide_eq_true_eq,bne_iff_ne];omega
  rw[Uy]at nm;rw[h1]at hh;rw[hr];have nm:af prog 190 [.agg (aN s.at_)] (.v (.int .i64 (s.at_.hi - 1))):=nm;generalize s.at_.hi - 1=Z at*;cases h2:(x !=s.at_.at_)with
  |false=>
   refine pj func241 ntmps241 results241 ?_;exact aZ;all_goals exact ai.refl _
  |true=>
   refine pj func241 ntmps241 results241 ?_;exact aZ;all_goals exact ai.refl _
theorem HD (v:Vpc)(hl:v.subs.length≤9223372036854775807)(hf:∀s∈v.subs,s.faces.length≤9223372036854775807):af prog 191 [.agg (al v)] (.v (.bool (kM v))):=by
 obtain⟨R,hR⟩:∃R,R=kM v:=⟨_,rfl⟩;rw[←hR];replace hR:=Xj hR;unfold kM at hR;cases h1:decide ((v.ranges.length:Int)>4)with
 |true=>
  have hb:R=true:=by rw[hR.out,h1];rfl
  rw[hb];replace hb:=Xj hb;refine pj func191 ntmps191 results191 ?_;exact aZ;all_goals exact ai.refl _
 |false=>
  cases h2:decide ((v.subs.length:Int)>6)with
  |true=>
   have hb:R=true:=by rw[hR.out,h1,h2];rfl
   rw[hb];replace hb:=Xj hb;refine pj func191 ntmps191 results191 ?_;exact aZ;all_goals exact ai.refl _
  |false=>
   have aP:R=v.subs.any nq:=by rw[hR.out,h1,h2];rfl
   clear hR;replace aP:=Xj aP;refine pj func191 ntmps191 results191 ?_;refine am ?_<;>intros;refine bg ae ak v.subs (fun k=>(v.subs.take k).all (fun s=>!(nq s))=true) (fun k=>[(3,.d (.v (.int .i64 k))),(2,.d (.v (.bool false))),(1,.ptr 0 0)]) (fun _=>[.box 55 ((al v).map .d)]) rfl (wf) ?_ ?_
   ·intro k s hs hk hI C hC;have dH:(k:Int) < (v.subs.length:Int):=by omega
    have cM:=wi k (by omega);have gS:=hf s (Xl hs);have S0:nq s=true→R=true:=fun h=>by rw[aP.out];exact XU.2 ⟨s,Xl hs,h⟩
    have dP:nq s=false→(v.subs.take (k+1)).all (fun s=>!(nq s))=true:=fun h=>d7 hs hI (by rw[h];rfl);have QZ:nq s=(decide ((s.faces.length:Int)>8)||s.faces.any pA):=rfl;replace hI:=Xj hI;replace dP:=Xj dP;cases h3:decide ((s.faces.length:Int)>8)with
    |true=>
     have hb:R=true:=S0 (by rw[QZ,h3];rfl);rw[hb];replace hb:=Xj hb;clear S0 QZ;exact aZ;all_goals exact ai.refl _
    |false=>
     rw[h3,ZT]at QZ;replace S0:=Xj S0;replace QZ:=Xj QZ;refine am ?_<;>intros;refine bg ae ak s.faces (fun j=>(s.faces.take j).all (fun f=>!(pA f))=true) (fun j=>[(4,.d (.v (.int .i64 j))),(3,.d (.v (.int .i64 k))),(2,.d (.v (.bool false))),(1,.ptr 0 0)]) (fun _=>[.box 55 ((al v).map .d)]) rfl (wf) ?_ ?_
     ·intro j f VX hj hJ C2 jz;have ic:(j:Int) < (s.faces.length:Int):=by omega
      have j6:=wi j (by omega);replace hJ:=Xj hJ;cases h4:decide ((f.addrs.length:Int)>4)with
      |true=>
       have hb:R=true:=S0.out (by rw[QZ.out];exact XU.2 ⟨f,Xl VX,h4⟩);rw[hb];replace hb:=Xj hb;exact aZ;all_goals exact ai.refl _
      |false=>
       have AO:=Xj (d7 (p:=fun f:Fce=>!(pA f)) VX hJ.out (by unfold pA;rw[h4];rfl));refine am ?_<;>intros;exact jz _ _ AO.out (wf)
     ·intro hJ C2;rw[Xt]at hJ;have lS:=dP.out (by rw[QZ.out,Yh];intro x hx;have:=XE.1 hJ x hx;simpa using this);replace hJ:=Xj hJ;replace lS:=Xj lS;refine am ?_<;>intros;exact hC _ _ lS.out (wf)
   ·intro hI C;rw[Xt]at hI;have hb:R=false:=by rw[aP.out,Yh];intro x hx;have:=XE.1 hI x hx;simpa using this
    rw[hb];replace hb:=Xj hb;replace hI:=Xj hI;exact aZ;all_goals exact ai.refl _
theorem Ei {s:Sbn}{f:Fce}(hf:f∈s.faces)(h:kN s.at_ f=false):dD s=false:=by
 unfold dD;rw[show s.faces.all (kN s.at_)=false from by rw[Y2];exact⟨f,hf,by rw[h];simp⟩];rfl
theorem B0 {s:Sbn}{k:Nat}{x y:Fce}(h0:0 < k)(hx:s.faces[k - 1]? =some x)(hy:s.faces[k]? =some y)(h:x.id≥y.id):dD s=false:=by
 have:fd (fun f:Fce=>f.id) s.faces=false:=by
  rw[YE,ne_eq,eI];intro hr;obtain⟨hl,he⟩:=Xn.1 hy;obtain⟨Q0,S1⟩:=Xn.1 hx;have h1:=hr (k - 1) (by omega);simp only[show k - 1+1=k by omega,he,S1]at h1;omega
 unfold dD;simp only[this,Bool.and_false]
theorem Ej {p:Pfx}{f:Fce}{k:Nat}{x y:Int}(h0:0 < k)(hx:f.addrs[k - 1]? =some x)(hy:f.addrs[k]? =some y)(h:x≥y):kN p f=false:=by
 have:fd (fun x=>x) f.addrs=false:=by
  rw[YE,ne_eq,eI];intro hr;obtain⟨hl,he⟩:=Xn.1 hy;obtain⟨Q0,S1⟩:=Xn.1 hx;have h1:=hr (k - 1) (by omega);simp only[show k - 1+1=k by omega,he,S1]at h1;omega
 unfold kN;simp[this]
theorem Ek {s:Sbn}{k:Nat}{f:Fce}{a:Int}(hf:s.faces[k]? =some f)(ha:a∈f.addrs)(hd:a∈(s.faces.take k).flatMap (·.addrs)):dD s=false:=by
 have:¬(s.faces.flatMap (·.addrs)).Nodup:=by
  intro hn;rw[←YX k s.faces,jJ hf,Zs,List.flatMap_cons,N']at hn;exact hn.2.2 a hd a (ZP _ ha) rfl
 unfold dD;simp[this]
theorem vz {α:Type}{key:α→Int}{l:List α}{k:Nat}{y:α}(hy:l[k]? =some y)(h:∀j (h:j+1 < l.length),j+1 < k→key l[j] < key l[j+1])(hs:∀x,0 < k→l[k - 1]? =some x→key x < key y):∀j (h:j+1 < l.length),j+1 < k+1→key l[j] < key l[j+1]:=by
 intro j hj AA;rcases XP (j+1) k with h1|h1
 ·exact h j hj h1
 ·obtain rfl:k=j+1:=by omega
  obtain⟨hl,he⟩:=Xn.1 hy;rw[he];exact hs _ (by omega) (Xk (by omega))
theorem B1 (s:Sbn)(h8:s.faces.length≤8)(h4:∀f∈s.faces,f.addrs.length≤4):af prog 193 [.agg (aU s)] (.v (.bool (dD s))):=by
 obtain⟨R,hR⟩:∃R,R=dD s:=⟨_,rfl⟩;rw[←hR];replace hR:=Xj hR;refine pj func193 ntmps193 results193 ?_;refine am ?_<;>intros;refine bL ae ak (fun m e h=>∃(k g:Nat) (A:List Int),k≤s.faces.length∧A=(s.faces.take k).flatMap (·.addrs)∧A.length≤4*k∧A.Nodup∧(s.faces.take k).all (kN s.at_)=true∧(∀j (h:j+1 < s.faces.length),j+1 < k→s.faces[j].id < s.faces[j+1].id)∧m=s.faces.length - k∧
  e=[(4,.d (.v (.int .i64 k))),(3,.own 1 g),(2,.d (.v (.bool false))),(1,.ptr 0 0)]∧h=[.box 71 ((aU s).map .d),.row 3 1 g (ab (A.map cD))]) _ _ _ ⟨0,0,[],XD _,rfl,XD _,List.nodup_nil,rfl,fun j h h1=>by omega,rfl,rfl,rfl⟩ ((cS (XD _) 3 3 1 rfl).trans (wf)) ?_
 rintro m e h ⟨k,g,A,hk,hA,hAl,lf,bP,AE,hm,rfl,rfl⟩ C hC;replace hm:=Xj hm;replace hA:=Xj hA;replace lf:=Xj lf;replace bP:=Xj bP;replace AE:=Xj AE;by_cases hlt:k < s.faces.length
 ·have dH:(k:Int) < (s.faces.length:Int):=by omega
  have cM:=wi k (by omega);have AB:decide ((k:Int)>0)=true→IntKind.i64.wrap ((k:Int) - 1)=((k - 1:Nat):Int):=fun h=>by have:=of_decide_eq_true h;rw[IntKind.wrap_i64];omega
  obtain⟨f,hf⟩:∃f,s.faces[k]? =some f:=⟨_,Xk hlt⟩;obtain⟨y,hy⟩:∃y,s.faces[k - 1]? =some y:=⟨_,Xk (by omega)⟩;have Du:=Xl hf;have gS:=h4 f Du;have hw:af prog 75 [.v (.int .i64 f.id),.v (.int .i64 1),.v (.int .i64 65536)] (.v (.bool (cF f.id))):=fZ _ _ _;have tW:(0 < k∧y.id≥f.id)→R=false:=fun h=>by rw[hR.out];exact B0 h.1 hy hf h.2
  have xK:kN s.at_ f=false→R=false:=fun h=>by rw[hR.out];exact Ei Du h
  have Q5:∀a∈f.addrs,a∈A→R=false:=fun a h1 h2=>by rw[hR.out];exact Ek hf h1 (by rw[←hA.out];exact h2)
  have gN:kN s.at_ f=(cF f.id&&(!((f.addrs.length:Int)==0)&&(fd (fun x=>x) f.addrs&&f.addrs.all (iO s.at_)))):=rfl;replace tW:=Xj tW;replace xK:=Xj xK;replace Q5:=Xj Q5;replace gN:=Xj gN;cases b1:cF f.id with
  |false=>
   have hr:R=false:=xK.out (by rw[gN.out,b1];rfl);rw[b1]at hw;rw[hr];replace hr:=Xj hr;exact aZ;all_goals exact ai.refl _
  |true=>
   rw[b1]at hw;cases b2:((f.addrs.length:Int)==0)with
   |true=>
    have hr:R=false:=xK.out (by rw[gN.out,b1,b2];rfl);rw[hr];replace hr:=Xj hr;exact aZ;all_goals exact ai.refl _
   |false=>
    refine zO ?_ ?_ ?_<;>intros;all_goals first
     |(exact FO (tW.out (by clear hw hC;grind)).symm)
     |skip
    all_goals
     have dP:0 < k→y.id < f.id:=by clear hw hC;grind
     replace dP:=Xj dP;refine bL ae ak (fun m e h=>∃(j:Nat),j≤f.addrs.length∧(f.addrs.take j).all (iO s.at_)=true∧(∀i (h:i+1 < f.addrs.length),i+1 < j→f.addrs[i] < f.addrs[i+1])∧(f.addrs.take j).all (fun a=>!(A.contains a))=true∧m=f.addrs.length - j∧
      e=[(6,.d (.v (.int .i64 j))),(5,.ptr 2 0),(4,.d (.v (.int .i64 k))),(3,.own 1 g),(2,.d (.v (.bool false))),(1,.ptr 0 0)]∧h=[.box 71 ((aU s).map .d),.row 3 1 g (ab (A.map cD)),.box 74 ((cl f).map .d)]) _ _ _ ⟨0,XD _,rfl,fun j h h1=>by omega,rfl,rfl,rfl,rfl⟩ (wf) ?_
     rintro m2 e h ⟨j,hj,dB,Me,cf,gT,rfl,rfl⟩ C2 jz;replace gT:=Xj gT;replace dB:=Xj dB;replace Me:=Xj Me;replace cf:=Xj cf;by_cases pf:j < f.addrs.length
     ·have ic:(j:Int) < (f.addrs.length:Int):=by omega
      have j6:=wi j (by omega);have ux:decide ((j:Int)>0)=true→IntKind.i64.wrap ((j:Int) - 1)=((j - 1:Nat):Int):=fun h=>by have:=of_decide_eq_true h;rw[IntKind.wrap_i64];omega
      obtain⟨a,ha⟩:∃a,f.addrs[j]? =some a:=⟨_,Xk pf⟩;obtain⟨b,hb⟩:∃b,f.addrs[j - 1]? =some b:=⟨_,Xk (by omega)⟩;have TJ:=Xl ha;have OT:=BZ s a;have Ax:(0 < j∧b≥a)→R=false:=fun h=>xK.out (Ej h.1 hb ha h.2);replace Ax:=Xj Ax;cases b3:iO s.at_ a with
      |false=>
       have hr:R=false:=xK.out (by rw[gN.out,show f.addrs.all (iO s.at_)=false from by rw[Y2];exact⟨a,TJ,by rw[b3];simp⟩];simp);rw[b3]at OT;rw[hr];replace hr:=Xj hr;exact aZ;all_goals exact ai.refl _
      |true=>
       rw[b3]at OT;refine zO ?_ ?_ ?_<;>intros;all_goals first
        |(exact FO (Ax.out (by clear hw hC jz OT;grind)).symm)
        |skip
       all_goals
        have zh:0 < j→b < a:=by clear hw hC jz OT;grind
        replace zh:=Xj zh;refine bg ae ak A (fun q=>(A.take q).all (fun x=>!(x==a))=true) (fun q=>[(7,.d (.v (.int .i64 q))),(6,.d (.v (.int .i64 j))),(5,.ptr 2 0),(4,.d (.v (.int .i64 k))),(3,.own 1 g),(2,.d (.v (.bool false))),(1,.ptr 0 0)])
         (fun _=>[.box 71 ((aU s).map .d),.row 3 1 g (ab (A.map cD)),.box 74 ((cl f).map .d)]) rfl (wf) ?_ ?_
        ·intro q x hx hq hQ C3 PE;have VY:(q:Int) < (A.length:Int):=by omega
         have cL:=wi q (by omega);replace hQ:=Xj hQ;cases b4:(x==a)with
         |true=>
          have hr:R=false:=Q5.out a TJ (by rw[←eq_of_beq b4];exact Xl hx);rw[hr];replace hr:=Xj hr;exact aZ;all_goals exact ai.refl _
         |false=>
          have W7:=Xj (d7 (p:=fun x:Int=>!(x==a)) hx hQ.out (by rw[b4];rfl));repeat' (first|(with_reducible refine And.intro ?_ ?_)|(with_reducible refine cm (fun _=>?_) (fun _=>?_))|(with_reducible refine aA (fun _=>?_) (fun _=>?_))|(with_reducible refine be (by kernel_rfl))|simp -dsimp only[go_sem,seval, *,aU,cl,cD,VY,cL,ha,hx,b4,undef]|((with_reducible refine bf ?_);simp -dsimp only[go_sem,seval,aU,cl,cD,VY,cL,ha,hx,b4,undef];first|refine aC (by first|assumption|fail) (by first|exact .inl rfl|exact .inr rfl) ?_|(refine aB (by assumption) ?_ ?_ ?_;(solve|(repeat(first|exact ai.refl _|exact ai.nil _|(refine ai.tup ?_)|(refine ai.agg ?_ rfl)|exact trivial|(refine And.intro ?_ ?_))));(solve|exact .inl rfl|exact .inr rfl)))|fail|omega|exact decide_eq_true (by omega)|exact ai.refl _)
          exact PE _ _ W7.out (wf)
        ·intro hQ C3;rw[Xt]at hQ;have MQ:A.contains a=false:=by
          rw[YE,ne_eq,ZL];intro hm;have:=XE.1 hQ a hm;simp at this
         replace hQ:=Xj hQ;replace MQ:=Xj MQ;refine am ?_<;>intros;refine jz _ _ _ _ _ ?_ ⟨j+1,pf,d7 ha dB.out b3,vz (key:=fun x:Int=>x) ha Me.out (fun x h0 hx=>by rw[hb]at hx;rw[←XX.inj hx];exact zh.out h0),d7 ha cf.out (by rw[MQ.out];rfl),rfl,rfl,rfl⟩ (wf);have:=gT.out;omega
     ·obtain rfl:j=f.addrs.length:=by omega
      have dB:=dB.out;have cf:=cf.out;rw[Xt]at dB cf;have lu:kN s.at_ f=true:=by
       rw[gN.out,b1,b2,dB,(eI f.addrs).2 (fun i hi=>Me.out i hi (by omega))];rfl
      have I5:A++f.addrs=(s.faces.take (k+1)).flatMap (·.addrs):=by rw[ag hf,Zs,←hA.out];simp
      have OU:f.addrs.Nodup:=by
       have h1:=(fX (key:=fun x:Int=>x) f.addrs).1 ((eI f.addrs).2 (fun i hi=>Me.out i hi (by omega)));exact h1.imp (fun h=>by omega)
      have wO:(A++f.addrs).Nodup:=by
       rw[N'];refine⟨lf.out,OU,fun x hx y hy e=>?_⟩;subst e;have:=XE.1 cf x hy;rw[ZL.2 hx]at this;simp at this
      have rI:(A.length+f.addrs.length)*8≤140737488355328:=by omega
      replace cf:=Xj cf;replace dB:=Xj dB;replace lu:=Xj lu;replace I5:=Xj I5;replace OU:=Xj OU;replace wO:=Xj wO;refine am ?_<;>intros;refine hC _ _ _ _ _ ?_ ⟨k+1,g+1,A++f.addrs,hlt,I5.out,by rw[XY];omega,wO.out,d7 hf bP.out lu.out,vz (key:=fun f:Fce=>f.id) hf AE.out (fun x h0 hx=>by rw[hy]at hx;rw[←XX.inj hx];exact dP.out h0),rfl,rfl,rfl⟩ (wf (hh:=(by simp only[aU,cl,Xo,Xm,Xu,←aI];rfl)));have:=hm.out;omega
 ·obtain rfl:k=s.faces.length:=by omega
  have hr:R=true:=by
   have bP:=bP.out;have hA:=hA.out;rw[Xt]at bP hA;rw[hR.out];unfold dD;rw[bP,←hA,(eI s.faces).2 (fun i hi=>AE.out i hi (by omega))];simp[lf.out]
  rw[hr];replace hr:=Xj hr;exact aZ;all_goals exact ai.refl _
theorem B2:∀(pre l:List Pfx),gw pre l=true↔l.Pairwise (fun a b=>b.meets a=false)∧∀a∈pre,∀b∈l,b.meets a=false
 |pre,[]=>by simp[gw]
 |pre,p::l=>by
  simp only[gw,Xy,Zz,Yh,ZI,B2 (pre++[p]) l,YC,X2,X7,List.not_mem_nil,or_false];constructor
  ·rintro⟨h1,h2,h3⟩;refine⟨⟨fun b hb=>h3 p (.inr rfl) b hb,h2⟩,fun a ha b hb=>?_⟩;rcases hb with rfl|hb
   ·exact h1 a ha
   ·exact h3 a (.inl ha) b hb
  ·rintro⟨⟨h1,h2⟩,h3⟩;refine⟨fun x hx=>h3 x hx p (.inl rfl),h2,fun a ha b hb=>?_⟩;rcases ha with ha|rfl
   ·exact h3 a ha b (.inr hb)
   ·exact h1 b hb
theorem oh {l:List Pfx}:gw [] l=true↔l.Pairwise (fun a b=>b.meets a=false):=by
 rw[B2];simp
theorem Ke {l:List Pfx}(hr:∀p∈l,p.right=true)(hs:l.Pairwise fun a b=>a.at_ < b.at_)(ha:∀j (h:j+1 < l.length),l[j].meets l[j+1]=false):gw [] l=true:=by
 rw[oh,XF];intro i j hi hj hij;rw[YE,ne_eq,dQ];rintro⟨-,-,h1,h2⟩;have h3:=ha i (by omega);have r1:=hr l[i] (Ym hi);have r2:=hr l[i+1] (Ym (by omega));rw[YE,ne_eq,dQ]at h3;have s1:=XF.1 hs i (i+1) hi (by omega) (by omega);have s2:l[i+1].at_≤l[j].at_:=by
  rcases XP (i+1) j with h|h
  ·have:=XF.1 hs (i+1) j (by omega) hj h;omega
  ·obtain rfl:j=i+1:=by omega
   exact ZG _
 have b2:=l[i+1].hi_bd r2;exact h3 ⟨r1,r2,by omega,by omega⟩
theorem Kf {v:Vpc}(hm:kM v=false)(h:pB v=false∨gw [] (v.ranges.map (·.at_))=false∨gw [] (v.subs.map (·.at_))=false):bN v=1:=by
 unfold bN;rw[if_neg (by simp[hm]),if_neg];rintro h1;simp only[Xy]at h1;rcases h with h|h|h<;>simp[h]at h1
theorem B3 {l:List Pfx}{i j:Nat}{x y:Pfx}(hij:i < j)(hx:l[i]? =some x)(hy:l[j]? =some y)(h:x.meets y=true):gw [] l=false:=by
 rw[YE,ne_eq,oh];intro hp;obtain⟨h1,rfl⟩:=Xn.1 hx;obtain⟨h2,rfl⟩:=Xn.1 hy;have:=XF.1 hp i j h1 h2 hij;rw[←eZ]at this h;unfold np at this h;grind
theorem B4 {α:Type}{key:α→Int}{l:List α}{k:Nat}{x y:α}(h0:0 < k)(hx:l[k - 1]? =some x)(hy:l[k]? =some y)(h:key x≥key y):fd key l=false:=by
 rw[YE,ne_eq,eI];intro hr;obtain⟨hl,he⟩:=Xn.1 hy;obtain⟨Q0,S1⟩:=Xn.1 hx;have h1:=hr (k - 1) (by omega);simp only[show k - 1+1=k by omega,he,S1]at h1;omega
theorem FT {α:Type}{p:α→Bool}{l:List α}{x:α}(hx:x∈l)(h:p x=false):l.all p=false:=by
 rw[Y2];exact⟨x,hx,by rw[h];simp⟩
theorem mo {v:Vpc}(h:cF v.id=false∨fd (fun r:Rng=>r.at_.at_) v.ranges=false∨fd (fun s:Sbn=>s.id) v.subs=false∨v.ranges.all ey=false∨v.subs.all (ml v)=false):pB v=false:=by
 unfold pB;rcases h with h|h|h|h|h<;>simp[h]
theorem B5 {l:List Rng}{k:Nat}{y:Rng}(hy:l[k]? =some y)(h:∀j (h:j+1 < l.length),j+1 < k→l[j].at_.at_ < l[j+1].at_.at_∧l[j].at_.meets l[j+1].at_=false)(hs:∀x,0 < k→l[k - 1]? =some x→x.at_.at_ < y.at_.at_∧x.at_.meets y.at_=false):∀j (h:j+1 < l.length),j+1 < k+1→l[j].at_.at_ < l[j+1].at_.at_∧l[j].at_.meets l[j+1].at_=false:=by
 intro j hj AA;rcases XP (j+1) k with h1|h1
 ·exact h j hj h1
 ·obtain rfl:k=j+1:=by omega
  obtain⟨hl,he⟩:=Xn.1 hy;rw[he];exact hs _ (by omega) (Xk (by omega))
theorem HE {v:Vpc}(hm:kM v=false)(h1:cF v.id=true)(h2:v.ranges.all ey=true)(h3:∀j (h:j+1 < v.ranges.length),v.ranges[j].at_.at_ < v.ranges[j+1].at_.at_∧v.ranges[j].at_.meets v.ranges[j+1].at_=false)(h4:v.subs.all (ml v)=true)(h5:∀j (h:j+1 < v.subs.length),v.subs[j].id < v.subs[j+1].id)(h6:∀(i j:Nat) (x y:Sbn),i < j→v.subs[i]? =some x→v.subs[j]? =some y→x.at_.meets y.at_=false):bN v=0:=by
 have r1:fd (fun r:Rng=>r.at_.at_) v.ranges=true:=(eI v.ranges).2 fun j hj=>(h3 j hj).1;have r2:fd (fun s:Sbn=>s.id) v.subs=true:=(eI v.subs).2 h5;rw[Kd];refine⟨hm,by unfold pB;rw[h1,r1,r2,h2,h4];rfl,?_,?_⟩
 ·refine Ke (fun p hp=>?_) ?_ fun j hj=>?_
  ·obtain⟨r,hr,rfl⟩:=XQ.1 hp;exact kj (XE.1 h2 r hr)
  ·rw[Y3];exact(fX v.ranges).1 r1
  ·simp only[XC]at hj;simp only[A'];exact(h3 j hj).2
 ·rw[oh,Y3,XF];intro i j hi hj hij;have:=h6 i j _ _ hij (Xk hi) (Xk hj);rw[←eZ]at this ⊢;unfold np at this ⊢;grind
theorem gy (v:Vpc)(hl:v.subs.length≤9223372036854775807)(hf:∀s∈v.subs,s.faces.length≤9223372036854775807):af prog 107 [.agg (al v)] (.v (.int .i64 (bN v))):=by
 have sR:=HD v hl hf;clear hl hf;cases hm:kM v with
 |true=>
  rw[hm]at sR;have hr:bN v=2:=by unfold bN;rw[if_pos hm]
  rw[hr];refine pj func107 ntmps107 results107 ?_;exact aZ
 |false=>
 obtain⟨h4,h6,h8⟩:=vt hm;rw[hm]at sR;have hid:af prog 75 [.v (.int .i64 v.id),.v (.int .i64 1),.v (.int .i64 65536)] (.v (.bool (cF v.id))):=fZ _ _ _;have eP:=Xj (fun h=>Kf hm h);have S2:=Xj (fun a b c d e f=>HE hm a b c d e f);replace h8:=Xj h8;replace hm:=Xj hm;obtain⟨R,hR⟩:∃R,R=bN v:=⟨_,rfl⟩;rw[←hR];replace hR:=Xj hR;cases b1:cF v.id with
 |false=>
  have hr:R=1:=by rw[hR.out];exact eP.out (.inl (mo (.inl b1)))
  rw[b1]at hid;rw[hr];replace hr:=Xj hr;refine pj func107 ntmps107 results107 ?_;exact aZ
 |true=>
 rw[b1]at hid;refine pj func107 ntmps107 results107 ?_;refine am ?_<;>intros;clear sR hid;refine bL ae ak (fun m e h=>∃(k:Nat),k≤v.ranges.length∧(v.ranges.take k).all ey=true∧(∀j (h:j+1 < v.ranges.length),j+1 < k→v.ranges[j].at_.at_ < v.ranges[j+1].at_.at_∧v.ranges[j].at_.meets v.ranges[j+1].at_=false)∧m=v.ranges.length - k∧e=[(3,.d (.v (.int .i64 k))),(2,.d (.v (.int .i64 0))),(1,.ptr 0 0)]∧
  h=[.box 55 ((al v).map .d)]) _ _ _ ⟨0,XD _,rfl,fun j h h1=>by omega,rfl,rfl,rfl⟩ (wf) ?_
 rintro m e h ⟨k,hk,bP,IM,hm0,rfl,rfl⟩ C hC;replace hm0:=Xj hm0;replace bP:=Xj bP;replace IM:=Xj IM;by_cases hlt:k < v.ranges.length
 ·have dH:(k:Int) < (v.ranges.length:Int):=by omega
  have cM:=wi k (by omega);have AB:decide ((k:Int)>0)=true→IntKind.i64.wrap ((k:Int) - 1)=((k - 1:Nat):Int):=fun h=>by have:=of_decide_eq_true h;rw[IntKind.wrap_i64];omega
  obtain⟨r,hr⟩:∃r,v.ranges[k]? =some r:=⟨_,Xk hlt⟩;obtain⟨y,hy⟩:∃y,v.ranges[k - 1]? =some y:=⟨_,Xk (by omega)⟩;have uy:=Xl hr;have hw:af prog 75 [.v (.int .i64 r.pool),.v (.int .i64 1),.v (.int .i64 65536)] (.v (.bool (cF r.pool))):=fZ _ _ _;have Dv:af prog 189 [.agg (aN r.at_)] (.v (.bool (chk r.at_.at_ r.at_.len==0))):=vq r.at_;have nH:=pW y.at_ r.at_;rw[eZ]at nH;have pn:ey r=(cF r.pool&&(chk r.at_.at_ r.at_.len==0)):=rfl;have bH:ey r=false→R=1:=fun h=>by rw[hR.out];exact eP.out (.inl (mo (.inr (.inr (.inr (.inl (FT uy h)))))))
  have tW:0 < k∧y.at_.at_≥r.at_.at_→R=1:=fun h=>by rw[hR.out];exact eP.out (.inl (mo (.inr (.inl (B4 (key:=fun r:Rng=>r.at_.at_) h.1 hy hr h.2)))))
  have I6:0 < k∧y.at_.meets r.at_=true→R=1:=fun h=>by
   rw[hR.out];exact eP.out (.inr (.inl (B3 (i:=k - 1) (j:=k) (by omega) (by rw[Xz,hy];rfl) (by rw[Xz,hr];rfl) h.2)))
  replace bH:=Xj bH;replace tW:=Xj tW;replace I6:=Xj I6;cases b2:ey r with
  |false=>
   have h1:R=1:=bH.out b2;rw[b2]at pn;rw[h1];replace h1:=Xj h1;cases b3:cF r.pool with
   |false=>
    rw[b3]at hw;clear pn;exact aZ;all_goals exact ai.refl _
   |true=>
    rw[b3,Yr]at pn;rw[b3]at hw;have b4:=pn.symm;rw[b4]at Dv;clear pn;replace b4:=Xj b4;exact aZ;all_goals exact ai.refl _
  |true=>
   rw[b2]at pn;obtain⟨b3,b4⟩:=Bool.and_eq_true_iff.1 pn.symm;rw[b3]at hw;rw[b4]at Dv;clear pn;replace b3:=Xj b3;replace b4:=Xj b4;cases b5:y.at_.meets r.at_ with
   |true=>
    rw[b5]at nH;refine zO ?_ ?_ ?_<;>intros;all_goals first
     |(exact qV (I6.out (by clear hw hC Dv nH;grind)).symm)
     |(refine hC _ _ _ _ _ ?_ ⟨k+1,hlt,d7 hr bP.out b2,B5 hr IM.out (fun x h0 hx=>?_),rfl,rfl,rfl⟩ (wf);(have:=hm0.out;omega);exfalso;clear hw hC Dv nH;grind)
   |false=>
    rw[b5]at nH;refine zO ?_ ?_ ?_<;>intros;all_goals first
     |(exact qV (tW.out (by clear hw hC Dv nH;grind)).symm)
     |(refine hC _ _ _ _ _ ?_ ⟨k+1,hlt,d7 hr bP.out b2,B5 hr IM.out (fun x h0 hx=>?_),rfl,rfl,rfl⟩ (wf);(have:=hm0.out;omega);rw[hy]at hx;rw[←XX.inj hx];exact⟨by clear hw hC Dv nH;grind,b5⟩)
 ·obtain rfl:k=v.ranges.length:=by omega
  have bP:=bP.out;rw[Xt]at bP;have S3:=Xj (fun j hj=>IM.out j hj (by omega));replace bP:=Xj bP;clear IM;refine am ?_<;>intros;refine bL ae ak (fun m e h=>∃(k:Nat),k≤v.subs.length∧(v.subs.take k).all (ml v)=true∧(∀j (h:j+1 < v.subs.length),j+1 < k→v.subs[j].id < v.subs[j+1].id)∧(∀(i j:Nat) (x y:Sbn),i < j→j < k→v.subs[i]? =some x→v.subs[j]? =some y→x.at_.meets y.at_=false)∧m=v.subs.length - k∧e=[(5,.d (.v (.int .i64 k))),(2,.d (.v (.int .i64 0))),(1,.ptr 0 0)]∧
   h=[.box 55 ((al v).map .d)]) _ _ _ ⟨0,XD _,rfl,fun j h h1=>by omega,fun i j x y h1 h2=>by omega,rfl,rfl,rfl⟩ (wf) ?_
  rintro m2 e h ⟨k,iV,lg,AE,MR,gT,rfl,rfl⟩ C2 jz;replace gT:=Xj gT;replace lg:=Xj lg;replace AE:=Xj AE;replace MR:=Xj MR;by_cases AF:k < v.subs.length
  ·have dH:(k:Int) < (v.subs.length:Int):=by omega
   have cM:=wi k (by omega);have AB:decide ((k:Int)>0)=true→IntKind.i64.wrap ((k:Int) - 1)=((k - 1:Nat):Int):=fun h=>by have:=of_decide_eq_true h;rw[IntKind.wrap_i64];omega
   obtain⟨s,hs⟩:∃s,v.subs[k]? =some s:=⟨_,Xk AF⟩;obtain⟨y,hy⟩:∃y,v.subs[k - 1]? =some y:=⟨_,Xk (by omega)⟩;have kq:=Xl hs;have hw:af prog 75 [.v (.int .i64 s.id),.v (.int .i64 1),.v (.int .i64 65536)] (.v (.bool (cF s.id))):=fZ _ _ _;have Mf:=yA v s.at_ (by omega);have OV:=B1 s (h8.out s kq).1 (h8.out s kq).2;have xJ:ml v s=(cF s.id&&(fB v s.at_&&dD s)):=rfl;have bH:ml v s=false→R=1:=fun h=>by rw[hR.out];exact eP.out (.inl (mo (.inr (.inr (.inr (.inr (FT kq h)))))))
   have tW:0 < k∧y.id≥s.id→R=1:=fun h=>by rw[hR.out];exact eP.out (.inl (mo (.inr (.inr (.inl (B4 (key:=fun s:Sbn=>s.id) h.1 hy hs h.2))))))
   have I6:∀(j:Nat) (x:Sbn),j < k→v.subs[j]? =some x→x.at_.meets s.at_=true→R=1:=fun j x hj hx h=>by
    rw[hR.out];exact eP.out (.inr (.inr (B3 (i:=j) (j:=k) hj (by rw[Xz,hx];rfl) (by rw[Xz,hs];rfl) h)))
   replace bH:=Xj bH;replace tW:=Xj tW;replace I6:=Xj I6;replace xJ:=Xj xJ;cases b3:cF s.id with
   |false=>
    have h1:R=1:=bH.out (by rw[xJ.out,b3];rfl);rw[h1];replace h1:=Xj h1;rw[b3]at hw;exact aZ;all_goals exact ai.refl _
   |true=>
    rw[b3]at hw;cases b4:fB v s.at_ with
    |false=>
     have h1:R=1:=bH.out (by rw[xJ.out,b3,b4];rfl);rw[h1];replace h1:=Xj h1;rw[b4]at Mf;exact aZ;all_goals exact ai.refl _
    |true=>
     rw[b4]at Mf;cases b5:dD s with
     |false=>
      have h1:R=1:=bH.out (by rw[xJ.out,b3,b4,b5];rfl);rw[h1];replace h1:=Xj h1;rw[b5]at OV;exact aZ;all_goals exact ai.refl _
     |true=>
      rw[b5]at OV;have b6:ml v s=true:=by rw[xJ.out,b3,b4,b5];rfl
      replace b6:=Xj b6;refine zO ?_ ?_ ?_<;>intros;all_goals first
       |(exact qV (tW.out (by clear hw hC jz Mf OV;grind)).symm)
       |skip
      all_goals
       have dP:0 < k→y.id < s.id:=by clear hw hC jz Mf OV;grind
       replace dP:=Xj dP;refine qK ae ak k (fun j=>∀(i:Nat) (x:Sbn),i < j→v.subs[i]? =some x→x.at_.meets s.at_=false) (fun j=>[(7,.d (.v (.int .i64 j))),(6,.ptr 1 0),(5,.d (.v (.int .i64 k))),(2,.d (.v (.int .i64 0))),(1,.ptr 0 0)]) (fun _=>[.box 55 ((al v).map .d),.box 71 ((aU s).map .d)]) (fun i x h=>absurd h (YJ _)) (wf) ?_ ?_
       ·intro j AA hJ C3 PE;have ic:(j:Int) < (k:Int):=by omega
        have j6:=wi j (by omega);obtain⟨x,hx⟩:∃x,v.subs[j]? =some x:=⟨_,Xk (by omega)⟩;have nH:=pW x.at_ s.at_;rw[eZ]at nH;cases b7:x.at_.meets s.at_ with
        |true=>
         have h1:R=1:=I6.out j x AA hx b7;rw[h1];replace h1:=Xj h1;replace hJ:=Xj hJ;rw[b7]at nH;exact aZ;all_goals exact ai.refl _
        |false=>
         have AO:∀(i:Nat) (x:Sbn),i < j+1→v.subs[i]? =some x→x.at_.meets s.at_=false:=by
          intro i x' hi hx';rcases XP i j with h|h
          ·exact hJ i x' h hx'
          ·obtain rfl:i=j:=by omega
           rw[hx]at hx';rw[←XX.inj hx'];exact b7
         replace AO:=Xj AO;replace hJ:=Xj hJ;rw[b7]at nH;refine am ?_<;>intros;exact PE _ _ AO.out (wf)
       ·intro hJ C3;replace hJ:=Xj hJ;refine am ?_<;>intros;refine jz _ _ _ _ _ ?_ ⟨k+1,AF,d7 hs lg.out b6.out,vz (key:=fun s:Sbn=>s.id) hs AE.out (fun x h0 hx=>by rw[hy]at hx;rw[←XX.inj hx];exact dP.out h0),fun i j x z h1 h2 hx hz=>?_,rfl,rfl,rfl⟩ (wf)
        ·have:=gT.out;omega
        ·rcases XP j k with h|h
         ·exact MR.out i j x z h1 h hx hz
         ·obtain rfl:j=k:=by omega
          rw[hs]at hz;rw[←XX.inj hz];exact hJ.out i x h1 hx
  ·obtain rfl:k=v.subs.length:=by omega
   have h1:R=0:=by
    have lg:=lg.out;rw[Xt]at lg;rw[hR.out];refine S2.out b1 bP.out S3.out lg (fun j hj=>AE.out j hj (by omega)) (fun i j x y hij hx hy=>MR.out i j x y hij ?_ hx hy);exact(Xn.1 hy).1
   rw[h1];replace h1:=Xj h1;exact aZ;all_goals exact ai.refl _
def kP (ents:List (List Int × Int)):Nat→Int→Int→Prop
 |0,x,r=>kz ents [x]=some x∧r=x
 |n+1,x,r=>∃y,kz ents [x]=some y∧y≠x∧kP ents n y r
theorem zT (ents:List (List Int × Int))(n:Nat)(x r:Int)(h:kP ents n x r):
 MSpec prog 47 [.mref 0,.d (.v (.int .i64 x))] [.mp 1 false ents] (.d (.v (.int .i64 r))) [.mp 1 false ents]:=by
 refine mj func47 ntmps47 results47 ?_;refine am ?_<;>intros;refine bL ae ak (fun m e h=>∃(y:Int),kP ents m y r∧e=[(4,.d (.v (.int .i64 0))),(1,.d (.v (.int .i64 y))),(0,.mref 0)]∧h=[.mp 1 false ents]) _ _ _ ⟨x,h,rfl,rfl⟩ (wf) ?_;rintro m e h ⟨y,hy,rfl,rfl⟩ C hC;cases m with
 |zero=>
  obtain⟨h1,rfl⟩:=hy;refine am ?_<;>intros;all_goals exact bo rfl rfl
 |succ m=>
  obtain⟨z,h1,h2,h3⟩:=hy;have bB:(z !=y)=true:=by simpa using h2
  replace h3:=Xj h3;replace h2:=Xj h2;refine am ?_<;>intros;exact hC _ _ _ _ _ (Nat.lt_succ_self _) ⟨z,h3.out,rfl,rfl⟩ (wf)
def dE (v w:Vpc):Bool:=v.ranges.any fun r=>w.ranges.any fun q=>r.at_.meets q.at_
theorem HF (q r:Rng):af prog 238 [.agg (bv q),.ept (bv r)] (.v (.bool (r.at_.meets q.at_))):=by
 have hm:af prog 19 [.agg (aN r.at_),.agg (aN q.at_)] (.v (.bool (r.at_.meets q.at_))):=oU _ _;refine pj func238 ntmps238 results238 ?_;exact aZ
theorem Kg (r:Rng)(w:Vpc)(hw:w.ranges.length≤1000000000):af prog 237 [.agg (bv r),.ept (al w)] (.v (.bool (w.ranges.any fun q=>r.at_.meets q.at_))):=by
 have hc:=mS md (fun q=>r.at_.meets q.at_) w.ranges 238 [.ept (bv r)] hw (fun q _=>HF q r);refine pj func237 ntmps237 results237 ?_;exact aZ
theorem NF (v w:Vpc)(hv:v.ranges.length≤1000000000)(hw:w.ranges.length≤1000000000):af prog 188 [.agg (al v),.agg (al w)] (.v (.bool (dE v w))):=by
 have hc:=mS md (fun r=>w.ranges.any fun q=>r.at_.meets q.at_) v.ranges 237 [.ept (al w)] hv (fun r _=>Kg r w hw);refine pj func188 ntmps188 results188 ?_;exact aZ
def B6:List Int→Int
 |[]=>0
 |x::l=>if x=0 then B6 l else x
theorem Kh {l:List Int}{k:Nat}{x:Int}(h:l[k]? =some x):B6 (l.drop k)=if x=0 then B6 (l.drop (k+1))else x:=by rw[jJ h,B6]
theorem T8 (l:List Int)(hl:l.length≤1000000000):af prog 187 [.sl 1 (l.map cD)] (.v (.int .i64 (B6 l))):=by
 obtain⟨R,hR⟩:∃R,R=B6 l:=⟨_,rfl⟩;rw[←hR];replace hR:=Xj hR;refine pj func187 ntmps187 results187 ?_;refine am ?_<;>intros;refine bg ae ak l (fun k=>B6 l=B6 (l.drop k)) (fun k=>[(8,.d (.v (.int .i64 k))),(7,.d (.v (.int .i64 l.length))),(6,.d (.sl 1 (l.map cD))),(3,.d (.v (.int .i64 0))),(2,.d (.v (.int .i64 0)))]) (fun _=>[]) rfl (wf) ?_ ?_
 ·intro k x hx hk hI C hC;have dH:(k:Int) < (l.length:Int):=by omega
  have cM:=wi k (by omega);rw[Kh hx]at hI;by_cases h0:x=0
  ·rw[if_pos h0]at hI;have bB:(x !=0)=false:=by simp[h0]
   replace hI:=Xj hI;replace h0:=Xj h0;refine am ?_<;>intros;exact hC _ _ hI.out (wf)
  ·rw[if_neg h0]at hI;have bB:(x !=0)=true:=by simpa using h0
   have hr:R=x:=by rw[hR.out,hI]
   rw[hr];replace hr:=Xj hr;replace hI:=Xj hI;replace h0:=Xj h0;exact aZ;all_goals exact ai.refl _
 ·intro hI C;rw[Y7]at hI;have hr:R=0:=by rw[hR.out,hI];rfl
  rw[hr];replace hr:=Xj hr;replace hI:=Xj hI;exact aZ;all_goals exact ai.refl _
def qZ (l m:Lnk):Int:=B6 [ep l.a m.a,ep l.b m.b]
theorem NG (l m:Lnk):af prog 98 [.agg (bJ l),.agg (bJ m)] (.v (.int .i64 (qZ l m))):=by
 have h1:=mg l.a m.a;have h2:=mg l.b m.b;have h3:=T8 [ep l.a m.a,ep l.b m.b] (by simp);simp only[Xm,Xu,cD]at h3;unfold qZ;generalize ep l.a m.a=A at*;generalize ep l.b m.b=B at*;refine pj func98 ntmps98 results98 ?_;exact aZ
def fC (a b:Int):Lnk:=⟨if b < a then b else a,if a < b then b else a⟩
theorem un (v:Vpc)(id:Int):af prog 112 [.agg (al v),.v (.int .i64 id)] (.v (.int .i64 (ep v.id id))):=by
 have h1:=mg v.id id;refine pj func112 ntmps112 results112 ?_;exact aZ
theorem rc {α:Type}{enc:α→List D}(eB:∀x,(enc x).length=3)(key:α→Int)(l:List α)(t:Int)(g:Nat)(caps:List D)(hl:l.length≤1000000000)(hs:l.Pairwise fun a b=>key a < key b)(hc:∀x∈l,af prog g (.agg (enc x):: .v (.int .i64 t)::caps) (.v (.int .i64 (ep (key x) t)))):
 af prog 111 [.sl 3 (l.map enc),.v (.int .i64 t),.clo g caps] (.tup [.v (.int .i64 (i8 key t l)),.v (.bool (qN key t l))]):=by
 refine pj func111 ntmps111 results111 ?_;refine am ?_<;>intros;refine bL ae ak (fun m e h=>∃i j:Nat,i≤j∧j≤l.length∧(∀q (hq:q < l.length),q < i→key l[q] < t)∧(∀q (hq:q < l.length),j≤q→t≤key l[q])∧m=j - i∧
  e=[(10,.d (.v (.int .i64 j))),(9,.d (.v (.int .i64 i))),(8,.d (.v (.int .i64 l.length))),(7,.d (.v (.bool false))),(6,.d (.v (.int .i64 0))),(2,.d (.clo g caps)),(1,.d (.v (.int .i64 t))),(0,.d (.sl 3 (l.map enc)))]∧h=[]) _ _ _ ⟨0,l.length,XD _,XB _,fun q hq h=>absurd h (YJ _),fun q hq h=>by omega,rfl,rfl,rfl⟩ ?_ ?_
 ·exact wf (x:=[]) (hh:=rfl) (he:=⟨rfl,rfl,rfl,rfl,rfl,rfl,rfl,rfl,trivial⟩)
 ·rintro m e h ⟨i,j,hij,hj,iZ,jX,rfl,rfl,rfl⟩ CL mJ;by_cases hlt:i < j
  ·obtain⟨q,hq⟩:∃q,q=(i+j) / 2:=⟨_,rfl⟩;have sS:q < l.length:=by omega
   obtain⟨x,hx⟩:∃x,l[q]? =some x:=⟨_,Xk sS⟩;have nE:l[q]=x:=by rw[Xk sS]at hx;exact XX.inj hx
   have en:(i:Int) < (j:Int):=by omega
   have cj:IntKind.i64.wrap ((i:Int)+(j:Int))=((i+j:Nat):Int):=by rw[IntKind.wrap_i64];omega
   have cA:IntKind.u64.wrap ((i+j:Nat):Int)=((i+j:Nat):Int):=by rw[vf];omega
   have PC:(((i+j:Nat):Int)).fdiv (2 ^ min 1 64)=(q:Int):=by
    rw[hq,show (min 1 64:Nat)=1 from rfl,Int.pow_succ,Int.pow_zero,Int.one_mul,Z5 _ (by omega)];omega
   have lT:IntKind.i64.wrap (q:Int)=(q:Int):=by rw[IntKind.wrap_i64];omega
   have AG:=wi q (by omega);have bT:=eB x;have gU:(enc x).take 3=enc x:=XN (by omega);have jC:=hc x (Xl hx);have I2:=qM (key x) t;have VZ:i≤q∧q < j:=by omega
   replace hq:=Xj hq;by_cases hk:key x < t
   ·have dH:decide (key x < t)=true:=by simpa using hk
    refine am ?_<;>intros;refine mJ _ _ _ _ _ ?_ ⟨q+1,j,by omega,hj,?_,jX,rfl,rfl,rfl⟩ (wf (x:=[]) (hh:=rfl) (he:=⟨rfl,rfl,rfl,rfl,rfl,rfl,rfl,rfl,trivial⟩))
    ·omega
    ·intro q' hq' IN;rcases XP q' q with h1|h1
     ·have:=XF.1 hs q' q hq' sS h1;rw[nE]at this;omega
     ·obtain rfl:q'=q:=by omega
      rw[nE];exact hk
   ·have dH:decide (key x < t)=false:=by simpa using hk
    refine am ?_<;>intros;refine mJ _ _ _ _ _ ?_ ⟨i,q,by omega,by omega,iZ,?_,rfl,rfl,rfl⟩ (wf (x:=[]) (hh:=rfl) (he:=⟨rfl,rfl,rfl,rfl,rfl,rfl,rfl,rfl,trivial⟩))
    ·omega
    ·intro q' hq' IN;rcases XP q q' with h1|h1
     ·have:=XF.1 hs q q' sS hq' h1;rw[nE]at this;omega
     ·obtain rfl:q'=q:=by omega
      rw[nE];omega
  ·obtain rfl:i=j:=by omega
   have je:=pT hj iZ jX;have rK:qN key t l=match l[i]? with|some x=>key x==t|none=>false:=by unfold qN;rw[je];all_goals(cases l[i]? <;>rfl)
   replace je:=Xj je;replace rK:=Xj rK;by_cases dB:i < l.length
   ·obtain⟨x,hx⟩:∃x,l[i]? =some x:=⟨_,Xk dB⟩;have Mg:decide ((i:Int) < (l.length:Int))=true:=by simpa using dB
    have bT:=eB x;have gU:(enc x).take 3=enc x:=XN (by omega);have jC:=hc x (Xl hx);have V0:=sk (key x) t;refine am ?_<;>intros;all_goals rw[rK.out,hx,je.out]
    all_goals exact ai.refl _
   ·have Mg:decide ((i:Int) < (l.length:Int))=false:=by simpa using dB
    refine am ?_<;>intros;all_goals rw[rK.out,je.out,XT (by omega)]
    all_goals exact ai.refl _
def fL (n:Net)(id:Int):Option Vpc:=n.vpcs.find? fun v=>v.id==id
@[go_sem] def b8 (o:Option Vpc):D:=match o with|some v=> .tup [.ept (al v),.v (.bool true)]|none=> .tup [.v (.pointer none),.v (.bool false)]
theorem Ki {l:List Vpc}{id:Int}(hs:l.Pairwise fun a b=>a.id < b.id){v:Vpc}(hv:l[i8 (fun v:Vpc=>v.id) id l]? =some v)(he:v.id=id):l.find? (fun v=>v.id==id)=some v:=by
 rw[List.find?_eq_some_iff_getElem];obtain⟨hlt,hg⟩:=Xn.1 hv;refine⟨by simpa using he,_,hlt,hg,fun j hj=>?_⟩;have:=XF.1 hs j _ (by omega) hlt hj;rw[hg]at this;simp;omega
theorem NH {l:List Vpc}{id:Int}(hs:l.Pairwise fun a b=>a.id < b.id)(h:qN (fun v:Vpc=>v.id) id l=false):l.find? (fun v=>v.id==id)=none:=by
 rw[Yq];intro v hv he;have W8:v.id=id:=by simpa using he
 obtain⟨j,hj,rfl⟩:=X0.1 hv;have h1:i8 (fun v:Vpc=>v.id) id l=j:=pT (by omega) (fun q hq V1=>by
  have:=XF.1 hs q j hq hj V1;show l[q].id < id;omega) (fun q hq Uh=>by
  show id≤l[q].id;rcases XP j q with h|h
  ·have:=XF.1 hs j q hj hq h;omega
  ·obtain rfl:q=j:=by omega
   omega)
 unfold qN at h;rw[h1,Xk hj]at h;simp[W8]at h
@[go_sem] def b9 (o:Option Vpc):PV:= .d (b8 o)
theorem B7 (n:Net)(id:Int)(hl:n.vpcs.length≤1000000000)(hs:n.vpcs.Pairwise fun a b=>a.id < b.id):MSpec prog 45 [.ptr 0 0,.d (.v (.int .i64 id))] [.box 28 ((aK n).map .d)] (b9 (fL n id)) [.box 28 ((aK n).map .d)]:=by
 have hb:=rc iK (fun v:Vpc=>v.id) n.vpcs id 112 [] hl hs (fun v _=>un v id);unfold fL;cases hB:qN (fun v:Vpc=>v.id) id n.vpcs with
 |false=>
  rw[NH hs hB];rw[hB]at hb;clear hs;refine mj func45 ntmps45 results45 ?_;refine am ?_<;>intros;all_goals exact bo rfl rfl
 |true=>
  obtain⟨v,hv,he⟩:∃v,n.vpcs[i8 (fun v:Vpc=>v.id) id n.vpcs]? =some v∧v.id=id:=by
   unfold qN at hB;cases hq:n.vpcs[i8 (fun v:Vpc=>v.id) id n.vpcs]? with
   |none=>rw[hq]at hB;cases hB
   |some v=>rw[hq]at hB;exact⟨v,rfl,by simpa using hB⟩
  rw[Ki hs hv he];rw[hB]at hb;clear hs;replace he:=Xj he;have hlt:=(Xn.1 hv).1;generalize i8 (fun v:Vpc=>v.id) id n.vpcs=k at*;refine mj func45 ntmps45 results45 ?_;refine am ?_<;>intros;all_goals exact bo rfl rfl
theorem FU {ents:List (List Int × Int)}{a b r:Int}(hb:kz ents [b]=some b)(hr:r≠b):∀{n:Nat}{x:Int},kP ents n x r→kP (l7 ents [b] a) n x r
 |0,x,h=>by
  obtain⟨h1,rfl⟩:=h;exact⟨by rw[gR,if_neg (by simpa using fun e=>hr e.symm)];exact h1,rfl⟩
 |n+1,x,h=>by
  obtain⟨y,h1,h2,h3⟩:=h;have hx:b≠x:=fun e=>by subst e;rw[hb]at h1;exact h2 (XX.inj h1).symm
  exact⟨y,by rw[gR,if_neg (by simpa using hx)];exact h1,h2,FU hb hr h3⟩
theorem B8 {ents:List (List Int × Int)}{a b:Int}(ha:kz ents [a]=some a)(hb:kz ents [b]=some b)(gE:a≠b):∀{n:Nat}{x:Int},kP ents n x b→kP (l7 ents [b] a) (n+1) x a
 |0,x,h=>by
  obtain⟨h1,rfl⟩:=h;exact⟨a,by rw[gR,if_pos rfl],gE,by rw[gR,if_neg (by simpa using fun e=>gE e.symm)];exact ha,rfl⟩
 |n+1,x,h=>by
  obtain⟨y,h1,h2,h3⟩:=h;have hx:b≠x:=fun e=>by subst e;rw[hb]at h1;exact h2 (XX.inj h1).symm
  exact⟨y,by rw[gR,if_neg (by simpa using hx)];exact h1,h2,B8 ha hb gE h3⟩
theorem ss {ents:List (List Int × Int)}{b r:Int}(hb:kz ents [b]=some b):∀{n:Nat}{x:Int},kP ents n x r→kP (l7 ents [b] b) n x r
 |0,x,h=>by
  obtain⟨h1,rfl⟩:=h;refine⟨?_,rfl⟩;rw[gR];split
  ·rename_i e;simp at e;rw[e]
  ·exact h1
 |n+1,x,h=>by
  obtain⟨y,h1,h2,h3⟩:=h;refine⟨y,?_,h2,ss hb h3⟩;rw[gR,if_neg]
  ·exact h1
  ·intro e;simp at e;subst e;rw[hb]at h1;exact h2 (XX.inj h1).symm
def FV (ids:List Int)(ents:List (List Int × Int))(F:Int→Int):Prop:=∀x∈ids,(∃n,kP ents n x (F x))∧F x∈ids∧kz ents [F x]=some (F x)
def fM (F:Int→Int)(l:Lnk):Int→Int:=fun x=>if F x=F l.b then F l.a else F x
def pC (s:List (List Int × Int) × (Int→Int))(l:Lnk):List (List Int × Int) × (Int→Int):=(l7 s.1 [s.2 l.b] (s.2 l.a),fM s.2 l)
theorem Kj {ids:List Int}{ents:List (List Int × Int)}{F:Int→Int}{l:Lnk}(h:FV ids ents F)(ha:l.a∈ids)(hb:l.b∈ids):FV ids (l7 ents [F l.b] (F l.a)) (fM F l):=by
 obtain⟨-,fa,ra⟩:=h l.a ha;obtain⟨-,fb,rb⟩:=h l.b hb;intro x hx;obtain⟨⟨n,hn⟩,fx,rx⟩:=h x hx;unfold fM;by_cases gE:F l.a=F l.b
 ·rw[gE];by_cases nI:F x=F l.b
  ·rw[if_pos nI,←nI];exact⟨⟨n,ss rx hn⟩,fx,by rw[gR,if_pos rfl]⟩
  ·rw[if_neg nI];exact⟨⟨n,ss rb hn⟩,fx,by rw[gR,if_neg (by simpa using fun e=>nI e.symm)];exact rx⟩
 ·by_cases nI:F x=F l.b
  ·rw[if_pos nI];rw[nI]at hn;exact⟨⟨n+1,B8 ra rb gE hn⟩,fa,by rw[gR,if_neg (by simpa using fun e=>gE e.symm)];exact ra⟩
  ·rw[if_neg nI];exact⟨⟨n,FU rb nI hn⟩,fx,by rw[gR,if_neg (by simpa using fun e=>nI e.symm)];exact rx⟩
def mq (vs:List Vpc):List (List Int × Int):=vs.foldl (fun e v=>l7 e [v.id] v.id) []
theorem kQ {α β:Type}{f:β→α→β}{b:β}{l:List α}{k:Nat}{x:α}(h:l[k]? =some x):(l.take (k+1)).foldl f b=f ((l.take k).foldl f b) x:=by rw[ag h,Zn];rfl
theorem Kk (l:List Vpc)(e:List (List Int × Int))(x:Int):kz (l.foldl (fun e v=>l7 e [v.id] v.id) e) [x]=if x∈l.map (·.id)then some x else kz e [x]:=by
 induction l generalizing e with
 |nil=>simp
 |cons v l ih=>
  rw[YO,ih,gR];by_cases h1:x∈l.map (·.id)
  ·rw[if_pos h1,if_pos (by simp only[Xm,X7];exact .inr h1)]
  ·rw[if_neg h1];by_cases h2:v.id=x
   ·subst h2;simp
   ·rw[if_neg (by simpa using h2),if_neg];simp only[Xm,X7,not_or];exact⟨fun e=>h2 e.symm,h1⟩
theorem Sd (vs:List Vpc):FV (vs.map (·.id)) (mq vs) (fun x=>x):=fun x hx=>by
 have:=Kk vs [] x;rw[if_pos hx]at this;exact⟨⟨0,this,rfl⟩,hx,this⟩
def Se (n:Net):List (List Int × Int) × (Int→Int):=n.links.foldl pC (mq n.vpcs,fun x=>x)
theorem Pk {n:Net}(hl:∀l∈n.links,l.a∈n.vpcs.map (·.id)∧l.b∈n.vpcs.map (·.id))(k:Nat):FV (n.vpcs.map (·.id)) ((n.links.take k).foldl pC (mq n.vpcs,fun x=>x)).1 ((n.links.take k).foldl pC (mq n.vpcs,fun x=>x)).2:=by
 induction k with
 |zero=>exact Sd n.vpcs
 |succ k ih=>
  by_cases hk:k < n.links.length
  ·have hx:=Xk hk;rw[kQ hx];have:=hl _ (Ym hk);exact Kj ih this.1 this.2
  ·rw[XN (by omega)]at ih ⊢;exact ih
def IY (pid:Int)(m:List (List Int × Int))(l:Lse):List (List Int × Int):=if l.kind=1 then l7 m [l.at_.at_,l.at_.len,pid] l.owner else m
def Kl (m:List (List Int × Int))(p:Pol):List (List Int × Int):=p.leases.foldl (IY p.id) m
def t9 (b:Bok):List (List Int × Int):=b.pools.foldl Kl []
theorem FW (b:Bok)(h1:b.pools.length≤1000000000)(h2:∀p∈b.pools,p.leases.length≤1000000000):
 MSpec prog 34 [.d (.agg (aS b))] [] (.mref 1) [.gone,.mp 3 true (t9 b)]:=by
 replace h2:=Xj h2;refine mj func34 ntmps34 results34 ?_;refine am ?_;refine bg ae ak b.pools (fun _=>True) (fun k=>[(12,.d (.v (.int .i64 k))),(11,.d (.v (.int .i64 b.pools.length))),(10,.d (.sl 9 (b.pools.map ah))),(3,.mref 1)])
  (fun k=>[.gone,.mp 3 true ((b.pools.take k).foldl Kl [])]) trivial ?_ ?_ ?_
 ·exact(aL 0 (by simp)).trans wf
 ·intro k p hp hk _ C hC;have dH:(k:Int) < (b.pools.length:Int):=by omega
  have cM:=wi k (by omega);have iG:=h2.out p (Xl hp);have hs:(b.pools.take (k+1)).foldl Kl []=p.leases.foldl (IY p.id) ((b.pools.take k).foldl Kl []):=by rw[kQ hp];rfl
  replace hs:=Xj hs;generalize (b.pools.take k).foldl Kl []=M at*;refine am ?_;refine bg ae ak p.leases (fun _=>True) (fun j=>[(19,.d (.v (.int .i64 j))),(18,.d (.v (.int .i64 p.leases.length))),(17,.d (.sl 5 (p.leases.map aV))),(5,.ptr 2 0),(12,.d (.v (.int .i64 k))),(11,.d (.v (.int .i64 b.pools.length))),(10,.d (.sl 9 (b.pools.map ah))),(3,.mref 1)])
   (fun j=>[.gone,.mp 3 true ((p.leases.take j).foldl (IY p.id) M),.box 62 ((ah p).map .d)]) trivial wf ?_ ?_
  ·intro j l hl hj _ D hD;have ic:(j:Int) < (p.leases.length:Int):=by omega
   have j6:=wi j (by omega);have ht:(p.leases.take (j+1)).foldl (IY p.id) M=if l.kind=1 then l7 ((p.leases.take j).foldl (IY p.id) M) [l.at_.at_,l.at_.len,p.id] l.owner else (p.leases.take j).foldl (IY p.id) M:=by rw[kQ hl];rfl
   generalize (p.leases.take j).foldl (IY p.id) M=Mj at*;by_cases pc:l.kind=1
   ·rw[if_pos pc]at ht;have e1:(l.kind==1)=true:=by simpa using pc
    replace ht:=Xj ht;replace pc:=Xj pc;refine am ?_;exact hD _ _ trivial (wf (hh:=by rw[ht.out];rfl))
   ·rw[if_neg pc]at ht;have e1:(l.kind==1)=false:=by simpa using pc
    replace ht:=Xj ht;replace pc:=Xj pc;refine am ?_;exact hD _ _ trivial (wf (hh:=by rw[ht.out];rfl))
  ·intro _ D;rw[Xt];refine am ?_;exact hC _ _ trivial (wf (hh:=by rw[hs.out];rfl))
 ·intro _ C;rw[Xt];refine am ?_;exact bo rfl rfl
def zU (E:List (List Int × Int))(id:Int)(r:Rng):Bool:=(kz E [r.at_.at_,r.at_.len,r.pool]).getD 0==id
def ol (vs:List Vpc):Nat:=(vs.map (·.ranges.length)).sum
def gz (vs:List Vpc)(o:Int):Bool:=vs.any (·.id==o)
def kR (E:List (List Int × Int))(vs:List Vpc):Bool:=vs.all fun v=>v.ranges.all (zU E v.id)
def kS (E:List (List Int × Int))(p:Int→Bool)(i:Nat):Bool:=match E[i]? with|some kv=>p kv.2|none=>false
theorem El (E:List (List Int × Int))(p:Int→Bool):(X5 E.length).countP (kS E p)=E.countP fun kv=>p kv.2:=by
 induction E with
 |nil=>rfl
 |cons a l ih=>
  rw[XA,List.range_succ_eq_map,List.countP_cons,List.countP_map,List.countP_cons];have:(kS (a::l) p∘Nat.succ)=kS l p:=by funext i;rfl
  rw[this,ih];rfl
theorem HG {n:Nat}{seen:List Nat}(hn:seen.Nodup)(hl:∀i∈seen,i < n)(ha:∀i,i < n→i∈seen):seen.Perm (X5 n):=
 (List.perm_ext_iff_of_nodup hn List.nodup_range).2 fun i=>by
  rw[YR];exact⟨hl i,ha i⟩
theorem Km {E:List (List Int × Int)}{p:Int→Bool}{seen:List Nat}(hn:seen.Nodup)(hl:∀i∈seen,i < E.length)(ha:∀i,i < E.length→i∈seen):seen.countP (kS E p)=E.countP fun kv=>p kv.2:=by
 rw[←El];exact List.Perm.countP_eq _ (HG hn hl ha)
def B9 (n:Nat)(seen:List Nat):Nat:=((X5 n).filter fun i=>!seen.contains i).length
theorem FX {n i:Nat}{seen:List Nat}(hi:i < n)(hs:i∉seen):B9 n (seen++[i]) < B9 n seen:=by
 unfold B9;have wI:((X5 n).filter fun j=>!(seen++[i]).contains j)=((X5 n).filter fun j=>!seen.contains j).filter (fun j=>!(j==i)):=by
  rw[Zi];refine Z2 fun j _=>?_;by_cases h:j=i
  ·subst h;simp
  ·by_cases h2:j∈seen<;>simp[h,h2]
 rw[wI];refine List.length_filter_lt_length_iff_exists.2 ⟨i,?_,by simp⟩;rw[Zt];exact⟨YR.2 hi,by simpa using hs⟩
theorem HH {vs:List Vpc}{k:Nat}{v:Vpc}(h:vs[k]? =some v):ol (vs.take (k+1))=ol (vs.take k)+v.ranges.length:=by
 unfold ol;rw[ag h,Xo,List.sum_append];simp
theorem NI {vs:List Vpc}{n:Nat}(h:∀v∈vs,v.ranges.length≤n):ol vs≤vs.length*n:=by
 induction vs with
 |nil=>simp[ol]
 |cons v vs ih=>
  have h1:=h v (by simp);have h2:=ih fun x hx=>h x (by simp[hx]);simp only[ol,Xm,List.sum_cons,XA]at*;rw[ZQ];omega
theorem NJ (m:List (List Int × Int))(k:List Int)(v:Int):(l7 m k v).length≤m.length+1:=by
 induction m with
 |nil=>simp[l7]
 |cons a m ih=>
  unfold l7;split
  ·simp
  ·simp only[XA];omega
theorem NK (l:List Lse)(pid:Int):∀(m:List (List Int × Int)),(l.foldl (IY pid) m).length≤m.length+l.length:=by
 induction l with
 |nil=>intro m;simp
 |cons a l ih=>
  intro m;rw[YO];have h1:=ih (IY pid m a);have h2:(IY pid m a).length≤m.length+1:=by
   unfold IY;split
   ·exact NJ _ _ _
   ·omega
  simp only[XA];omega
theorem NL {b:Bok}{n:Nat}(h:∀p∈b.pools,p.leases.length≤n):(t9 b).length≤b.pools.length*n:=by
 unfold t9;have key:∀(l:List Pol) (m:List (List Int × Int)),(∀p∈l,p.leases.length≤n)→(l.foldl Kl m).length≤m.length+l.length*n:=by
  intro l;induction l with
  |nil=>intro m _;simp
  |cons a l ih=>
   intro m hl;rw[YO];have h1:=ih (Kl m a) fun p hp=>hl p (by simp[hp]);have h2:=NK a.leases a.id m;have h3:=hl a (by simp);simp only[XA];rw[ZQ];unfold Kl at*;omega
 have:=key b.pools [] h;simpa using this
theorem T9 (n:Net)(h1:n.vpcs.length≤1000000000)(h2:n.links.length≤1000000000)(hl:∀l∈n.links,l.a∈n.vpcs.map (·.id)∧l.b∈n.vpcs.map (·.id)):
 MSpec prog 46 [.d (.ept (aK n))] [] (.mref 0) [.mp 1 false (Se n).1]:=by
 have hg:=Xj (Pk hl);replace hl:=Xj hl;refine mj func46 ntmps46 results46 ?_;refine am ?_<;>intros;refine bg ae ak n.vpcs (fun _=>True) (fun k=>[(14,.d (.v (.int .i64 k))),(13,.d (.v (.int .i64 n.vpcs.length))),(12,.d (.sl 3 (n.vpcs.map al))),(3,.mref 0),(0,.d (.ept (aK n)))]) (fun k=>[.mp 1 false (mq (n.vpcs.take k))]) trivial (wf) ?_ ?_
 ·intro k v hv hk _ C hC;have dH:(k:Int) < (n.vpcs.length:Int):=by omega
  have cM:=wi k (by omega);have hs:mq (n.vpcs.take (k+1))=l7 (mq (n.vpcs.take k)) [v.id] v.id:=kQ hv;replace hs:=Xj hs;refine am ?_<;>intros;exact hC _ _ trivial (wf (hh:=(by rw[hs.out];rfl)))
 ·intro _ C;rw[Xt];refine am ?_<;>intros;refine bg ae ak n.links (fun _=>True) (fun k=>[(29,.d (.v (.int .i64 k))),(28,.d (.v (.int .i64 n.links.length))),(27,.d (.sl 2 (n.links.map bJ))),(3,.mref 0)]) (fun k=>[.mp 1 false ((n.links.take k).foldl pC (mq n.vpcs,fun x=>x)).1]) trivial (wf) ?_ ?_
  ·intro k l i4 hk _ C hC;have dH:(k:Int) < (n.links.length:Int):=by omega
   have cM:=wi k (by omega);have hs:((n.links.take (k+1)).foldl pC (mq n.vpcs,fun x=>x)).1=l7 ((n.links.take k).foldl pC (mq n.vpcs,fun x=>x)).1 [((n.links.take k).foldl pC (mq n.vpcs,fun x=>x)).2 l.b] (((n.links.take k).foldl pC (mq n.vpcs,fun x=>x)).2 l.a):=by rw[kQ i4];rfl
   have hm:=hl.out l (Xl i4);obtain⟨⟨na,ha⟩,-,-⟩:=hg.out k l.a hm.1;obtain⟨⟨nb,hb⟩,-,-⟩:=hg.out k l.b hm.2;generalize (n.links.take k).foldl pC (mq n.vpcs,fun x=>x)=S at*;have S4:=zT S.1 na l.a (S.2 l.a) ha;have S5:=zT S.1 nb l.b (S.2 l.b) hb;clear ha hb hm;replace hs:=Xj hs;repeat' (first|(with_reducible refine And.intro ?_ ?_)|(with_reducible refine cm (fun _=>?_) (fun _=>?_))|(with_reducible refine aA (fun _=>?_) (fun _=>?_))|(with_reducible refine be (by kernel_rfl))|simp -dsimp only[go_sem,seval, *,aK,bJ,dH,cM,i4,undef]|((with_reducible refine bf ?_);simp -dsimp only[go_sem,seval,aK,bJ,dH,cM,i4,undef];first|refine aC (by first|assumption|fail) (by first|exact .inl rfl|exact .inr rfl) ?_|(refine aB (by assumption) ?_ ?_ ?_;(solve|(repeat(first|exact ai.refl _|exact ai.nil _|(refine ai.tup ?_)|(refine ai.agg ?_ rfl)|exact trivial|(refine And.intro ?_ ?_))));(solve|exact .inl rfl|exact .inr rfl)))|(refine aX [0] (S5) ?_ ?_ ?_ ?_ ?_ ?_;(solve|rfl|simp only[go_sem,seval,bJ]);(solve|rfl);(solve|decide);(solve|simp);(solve|simp only[go_sem,seval,ax,bJ]))|(refine aX [0] (S4) ?_ ?_ ?_ ?_ ?_ ?_;(solve|rfl|simp only[go_sem,seval,bJ]);(solve|rfl);(solve|decide);(solve|simp);(solve|simp only[go_sem,seval,ax,bJ]))|omega|exact decide_eq_true (by omega)|exact ai.refl _)
   exact hC _ _ trivial (wf (hh:=(by rw[hs.out];rfl)))
  ·intro _ C;rw[Xt];refine am ?_<;>intros;all_goals exact bo rfl rfl
def aW (n:Net):Int→Int:=(Se n).2
def jK (n:Net)(v w:Vpc):Bool:=(aW n v.id==aW n w.id)&&dE v w
def ez (n:Net):Bool:=(X5 n.vpcs.length).all fun k=>match n.vpcs[k]? with|some v=>(n.vpcs.take k).all fun w=>!jK n v w|none=>true
theorem su {n:Net}{i j:Nat}{v w:Vpc}(hij:j < i)(hv:n.vpcs[i]? =some v)(hw:n.vpcs[j]? =some w)(h:jK n v w=true):ez n=false:=by
 unfold ez;rw[Y2];refine⟨i,YR.2 (Xn.1 hv).1,?_⟩;rw[hv];simp only[ZI,Y2];exact⟨w,Xl (i:=j) (by rw[XS hij];exact hw),by rw[h];simp⟩
theorem pZ {n:Net}(h:∀(i:Nat) (v w:Vpc),n.vpcs[i]? =some v→w∈n.vpcs.take i→jK n v w=false):ez n=true:=by
 unfold ez;rw[XE];intro i hi;have hl:=YR.1 hi;rw[Xk hl];simp only[XE];intro w hw;rw[h i _ w (Xk hl) hw];rfl
theorem zV (n:Net)(h1:n.vpcs.length≤1000000000)(h2:n.links.length≤1000000000)(hr:∀v∈n.vpcs,v.ranges.length≤1000000000)(hl:∀l∈n.links,l.a∈n.vpcs.map (·.id)∧l.b∈n.vpcs.map (·.id)):
 af prog 99 [.ept (aK n)] (.v (.bool (ez n))):=by
 have V2:=T9 n h1 h2 hl;have hg:∀x∈n.vpcs.map (·.id),∃k,kP (Se n).1 k x (aW n x):=fun x hx=>by
  have:=(Pk hl n.links.length x (by exact hx)).1;rwa [Xt]at this
 replace hg:=Xj hg;replace hr:=Xj hr;clear hl;obtain⟨R,hR⟩:∃R,R=ez n:=⟨_,rfl⟩;rw[←hR];replace hR:=Xj hR;generalize (Se n).1=E at*;refine pj func99 ntmps99 results99 ?_;have z1z:=Ln.mk (ls:=[]) (V2);refine am ?_<;>intros;clear V2;refine bg ae ak n.vpcs (fun k=>∀(i:Nat) (v w:Vpc),i < k→n.vpcs[i]? =some v→w∈n.vpcs.take i→jK n v w=false) (fun k=>[(15,.d (.v (.int .i64 k))),(14,.d (.v (.int .i64 n.vpcs.length))),(13,.d (.sl 3 (n.vpcs.map al))),(3,.mref 0),(2,.d (.v (.bool false))),(0,.d (.ept (aK n)))]) (fun _=>[.mp 1 false E]) (fun i v w h=>absurd h (YJ _)) (wf) ?_ ?_
 ·intro k v hv hk hI C hC;have dH:(k:Int) < (n.vpcs.length:Int):=by omega
  have cM:=wi k (by omega);have uw:k≤n.vpcs.length:=by omega
  have rL:=Xl hv;have zg:=hr.out v rL;obtain⟨nv,V3⟩:=hg.out v.id (XQ.2 ⟨v,rL,rfl⟩);have Uz:=zT E nv v.id (aW n v.id) V3;have hlt:(n.vpcs.take k).length=k:=by rw[Xp];omega
  have oJ:((n.vpcs.map al).take k).length=k:=by rw[←ZH,XC];exact hlt
  clear V3;replace hI:=Xj hI;refine am ?_<;>intros;refine bg ae ak (n.vpcs.take k) (fun j=>∀w∈(n.vpcs.take k).take j,jK n v w=false) (fun j=>[(27,.d (.v (.int .i64 j))),(26,.d (.v (.int .i64 k))),(25,.d (.sl 3 ((n.vpcs.map al).take k))),(5,.ptr 1 0),(15,.d (.v (.int .i64 k))),(14,.d (.v (.int .i64 n.vpcs.length))),(13,.d (.sl 3 (n.vpcs.map al))),(3,.mref 0),(2,.d (.v (.bool false))),(0,.d (.ept (aK n)))]) (fun _=>[.mp 1 false E,.box 55 ((al v).map .d)]) (fun w hw=>by simp at hw) (wf) ?_ ?_
  ·intro j w hw hj hJ C2 jz;have ic:(j:Int) < (k:Int):=by omega
   have lT:((n.vpcs.map al).take k)[j]? =some (al w):=by rw[←ZH,Xz,hw];rfl
   have j6:=wi j (by omega);have AA:j < k:=by omega
   have cA:n.vpcs[j]? =some w:=by rw[XS AA]at hw;exact hw
   have AB:=Xl cA;have UA:=hr.out w AB;obtain⟨nw,V4⟩:=hg.out w.id (XQ.2 ⟨w,AB,rfl⟩);have UB:=zT E nw w.id (aW n w.id) V4;have fS:=NF v w zg UA;have bH:jK n v w=true→R=false:=fun h=>by rw[hR.out];exact su AA hv cA h
   have rM:jK n v w=false→∀u∈(n.vpcs.take k).take (j+1),jK n v u=false:=fun h u hu=>by
    rw[ag hw]at hu;rcases X2.1 hu with hu|hu
    ·exact hJ u hu
    ·rw[Yc.1 hu];exact h
   have gN:jK n v w=((aW n v.id==aW n w.id)&&dE v w):=rfl;clear V4 hlt oJ;replace bH:=Xj bH;replace rM:=Xj rM;replace gN:=Xj gN;replace hJ:=Xj hJ;replace hw:=Xj hw;generalize (n.vpcs.map al).take k=L at*;cases e1:(aW n v.id==aW n w.id)with
   |false=>
    have hf:=Xj (rM.out (by rw[gN.out,e1];rfl));repeat' (first|(with_reducible refine And.intro ?_ ?_)|(with_reducible refine cm (fun _=>?_) (fun _=>?_))|(with_reducible refine aA (fun _=>?_) (fun _=>?_))|(with_reducible refine be (by kernel_rfl))|simp -dsimp only[go_sem,seval, *,al,ic,j6,lT,e1,undef]|((with_reducible refine bf ?_);simp -dsimp only[go_sem,seval,al,ic,j6,lT,e1,undef];first|refine aC (by first|assumption|fail) (by first|exact .inl rfl|exact .inr rfl) ?_|(refine aB (by assumption) ?_ ?_ ?_;(solve|(repeat(first|exact ai.refl _|exact ai.nil _|(refine ai.tup ?_)|(refine ai.agg ?_ rfl)|exact trivial|(refine And.intro ?_ ?_))));(solve|exact .inl rfl|exact .inr rfl)))|(refine aX [0] (Uz) ?_ ?_ ?_ ?_ ?_ ?_;(solve|rfl|simp only[go_sem,seval,al]);(solve|rfl);(solve|decide);(solve|simp);(solve|simp only[go_sem,seval,ax,al]))|(refine aX [0] (UB) ?_ ?_ ?_ ?_ ?_ ?_;(solve|rfl|simp only[go_sem,seval,al]);(solve|rfl);(solve|decide);(solve|simp);(solve|simp only[go_sem,seval,ax,al]))|omega|exact decide_eq_true (by omega)|exact ai.refl _)
    exact jz _ _ hf.out (wf)
   |true=>
    cases e2:dE v w with
    |true=>
     have hb:R=false:=bH.out (by rw[gN.out,e1,e2];rfl);rw[hb];replace hb:=Xj hb;rw[e2]at fS;repeat' (first|(with_reducible refine And.intro ?_ ?_)|(with_reducible refine cm (fun _=>?_) (fun _=>?_))|(with_reducible refine aA (fun _=>?_) (fun _=>?_))|(with_reducible refine be (by kernel_rfl))|simp -dsimp only[go_sem,seval, *,al,ic,j6,lT,e1,undef]|((with_reducible refine bf ?_);simp -dsimp only[go_sem,seval,al,ic,j6,lT,e1,undef];first|refine aC (by first|assumption|exact fS) (by first|exact .inl rfl|exact .inr rfl) ?_|(refine aB (by assumption) ?_ ?_ ?_;(solve|(repeat(first|exact ai.refl _|exact ai.nil _|(refine ai.tup ?_)|(refine ai.agg ?_ rfl)|exact trivial|(refine And.intro ?_ ?_))));(solve|exact .inl rfl|exact .inr rfl)))|(refine aX [0] (Uz) ?_ ?_ ?_ ?_ ?_ ?_;(solve|rfl|simp only[go_sem,seval,al]);(solve|rfl);(solve|decide);(solve|simp);(solve|simp only[go_sem,seval,ax,al]))|(refine aX [0] (UB) ?_ ?_ ?_ ?_ ?_ ?_;(solve|rfl|simp only[go_sem,seval,al]);(solve|rfl);(solve|decide);(solve|simp);(solve|simp only[go_sem,seval,ax,al]))|omega|exact decide_eq_true (by omega)|exact ai.refl _)
     all_goals exact ai.refl _
    |false=>
     have hf:=Xj (rM.out (by rw[gN.out,e1,e2];rfl));rw[e2]at fS;repeat' (first|(with_reducible refine And.intro ?_ ?_)|(with_reducible refine cm (fun _=>?_) (fun _=>?_))|(with_reducible refine aA (fun _=>?_) (fun _=>?_))|(with_reducible refine be (by kernel_rfl))|simp -dsimp only[go_sem,seval, *,al,ic,j6,lT,e1,undef]|((with_reducible refine bf ?_);simp -dsimp only[go_sem,seval,al,ic,j6,lT,e1,undef];first|refine aC (by first|assumption|exact fS) (by first|exact .inl rfl|exact .inr rfl) ?_|(refine aB (by assumption) ?_ ?_ ?_;(solve|(repeat(first|exact ai.refl _|exact ai.nil _|(refine ai.tup ?_)|(refine ai.agg ?_ rfl)|exact trivial|(refine And.intro ?_ ?_))));(solve|exact .inl rfl|exact .inr rfl)))|(refine aX [0] (Uz) ?_ ?_ ?_ ?_ ?_ ?_;(solve|rfl|simp only[go_sem,seval,al]);(solve|rfl);(solve|decide);(solve|simp);(solve|simp only[go_sem,seval,ax,al]))|(refine aX [0] (UB) ?_ ?_ ?_ ?_ ?_ ?_;(solve|rfl|simp only[go_sem,seval,al]);(solve|rfl);(solve|decide);(solve|simp);(solve|simp only[go_sem,seval,ax,al]))|omega|exact decide_eq_true (by omega)|exact ai.refl _)
     exact jz _ _ hf.out (wf)
  ·intro hJ C2;rw[Xt]at hJ;have lS:∀(i:Nat) (u w:Vpc),i < k+1→n.vpcs[i]? =some u→w∈n.vpcs.take i→jK n u w=false:=fun i u w hi hu hw=>by
    rcases XP i k with h|h
    ·exact hI.out i u w h hu hw
    ·obtain rfl:i=k:=by omega
     rw[hv]at hu;rw[←XX.inj hu];exact hJ w hw
   replace lS:=Xj lS;replace hJ:=Xj hJ;rw[hlt];refine am ?_<;>intros;exact hC _ _ lS.out (wf)
 ·intro hI C;have hb:R=true:=by
   rw[hR.out];exact pZ fun i v w hv hw=>hI i v w (Xn.1 hv).1 hv hw
  rw[hb];replace hb:=Xj hb;replace hI:=Xj hI;exact aZ;all_goals exact ai.refl _
def kT (n:Net)(l:Lnk):Bool:=(fL n l.a).isSome&&((fL n l.b).isSome&&decide (l.a < l.b))
def i6:List Lnk→Bool
 |l::m::ls=>decide (qZ l m < 0)&&i6 (m::ls)
 |_=>true
theorem zW:∀(l:List Lnk),i6 l=true↔∀j (h:j+1 < l.length),qZ l[j] l[j+1] < 0
 |[]=>by simp[i6]
 |[a]=>by simp[i6]
 |a::b::l=>by
  have ih:=zW (b::l);simp only[i6,Xy,decide_eq_true_eq,ih];constructor
  ·rintro⟨h1,h2⟩ j hj;cases j with
   |zero=>exact h1
   |succ j=>exact h2 j (by simpa using hj)
  ·intro h;exact⟨h 0 (by simp),fun j hj=>h (j+1) (by simpa using hj)⟩
def om (n:Net):Bool:=n.vpcs.all (fun v=>bN v==0)&&fd (·.id) n.vpcs
def cK (n:Net):Int:=if n.vpcs.length>6∨n.links.length>12 then 2 else if om n&&(n.links.all (kT n)&&(i6 n.links&&ez n))then 0 else 1
theorem fN {n:Net}{x:Int}(h:(fL n x).isSome=true):x∈n.vpcs.map (·.id):=by
 obtain⟨v,hv⟩:=Zf.1 h;unfold fL at hv;have h1:=YF hv;have h2:=Zh hv;exact XQ.2 ⟨v,h1,by simpa using h2⟩
theorem gX {n:Net}(h0:¬(n.vpcs.length>6∨n.links.length>12))(h:om n=false∨n.links.all (kT n)=false∨i6 n.links=false∨ez n=false):cK n=1:=by
 unfold cK;rw[if_neg h0];rcases h with h|h|h|h<;>simp[h]
theorem sv {n:Net}(h0:¬(n.vpcs.length>6∨n.links.length>12))(h1:om n=true)(h2:n.links.all (kT n)=true)(h3:i6 n.links=true)(h4:ez n=true):cK n=0:=by
 unfold cK;rw[if_neg h0,h1,h2,h3,h4];rfl
def lD (l:List Vpc):Int:=(l.getLast?.map (·.id)).getD 0
theorem p3 (l:List Vpc)(v:Vpc):lD (l++[v])=v.id:=by simp[lD]
theorem vA {l:List Vpc}(hs:l.Pairwise fun a b=>a.id < b.id){v:Vpc}(h:lD l < v.id):(l++[v]).Pairwise fun a b=>a.id < b.id:=by
 rw[YT];refine⟨hs,by simp,fun a ha b hb=>?_⟩;rw[Yc.1 hb];rcases List.eq_nil_or_concat l with rfl|⟨l',x,rfl⟩
 ·cases ha
 ·rw[List.concat_eq_append]at*;rw[p3]at h;rw[YT]at hs;rcases X2.1 ha with ha|ha
  ·have:=hs.2.2 a ha x (by simp);omega
  ·rw[Yc.1 ha];exact h
theorem yB {l:List Vpc}{v:Vpc}(hv:1≤v.id)(h:v.id≤lD l):¬(l++[v]).Pairwise fun a b=>a.id < b.id:=by
 intro hp;rw[YT]at hp;rcases List.eq_nil_or_concat l with rfl|⟨l',x,rfl⟩
 ·simp[lD]at h;omega
 ·rw[List.concat_eq_append]at*;rw[p3]at h;have:=hp.2.2 x (by simp) v (by simp);omega
theorem kU {n:Net}(h:om n=true)(k:Nat):(∀v∈n.vpcs.take k,bN v=0)∧(n.vpcs.take k).Pairwise fun a b=>a.id < b.id:=by
 unfold om at h;simp only[Xy,XE,fX,beq_iff_eq]at h;exact⟨fun v hv=>h.1 v (Yg hv),h.2.sublist (O' _ _)⟩
theorem vB {n:Net}(h1:∀v∈n.vpcs,bN v=0)(h2:n.vpcs.Pairwise fun a b=>a.id < b.id):om n=true:=by
 unfold om;simp only[Xy,XE,fX,beq_iff_eq];exact⟨h1,h2⟩
theorem sw:∀(l:List Lnk) (x:Lnk),i6 (l++[x])=(i6 l&&(match l.getLast? with|some y=>decide (qZ y x < 0)|none=>true))
 |[],x=>rfl
 |[a],x=>by simp[i6]
 |a::b::l,x=>by
  have ih:=sw (b::l) x;have e:(a::b::l).getLast? =(b::l).getLast? :=by simp[List.getLast?_cons_cons]
  rw[X8,X8,i6,←X8,ih,e,i6,P']
theorem yC {l:List Lnk}(h:i6 l=true)(k:Nat):i6 (l.take k)=true:=by
 rw[zW]at h ⊢;intro j hj;rw[ZA,ZA];exact h j (by rw[Xp]at hj;omega)
theorem sx {α:Type}{l:List α}{j:Nat}{y:α}(h:l[j]? =some y):(l.take (j+1)).getLast? =some y:=by rw[ag h];simp
theorem vC (n:Net):af prog 33 [.agg (aK n)] (.v (.int .i64 (cK n))):=by
 obtain⟨R,hR⟩:∃R,R=cK n:=⟨_,rfl⟩;rw[←hR];replace hR:=Xj hR;by_cases h6:n.vpcs.length>6
 ·have S6:decide ((n.vpcs.length:Int)>6)=true:=by simp;omega
  have hr:R=2:=by rw[hR.out,cK,if_pos (.inl h6)]
  rw[hr];replace hr:=Xj hr;refine pj func33 ntmps33 results33 ?_;exact aZ;all_goals exact ai.refl _
 by_cases Mh:n.links.length>12
 ·have S6:decide ((n.vpcs.length:Int)>6)=false:=by simp;omega
  have Q6:decide ((n.links.length:Int)>12)=true:=by simp;omega
  have hr:R=2:=by rw[hR.out,cK,if_pos (.inr Mh)]
  rw[hr];replace hr:=Xj hr;refine pj func33 ntmps33 results33 ?_;exact aZ;all_goals exact ai.refl _
 have S6:decide ((n.vpcs.length:Int)>6)=false:=by simp;omega
 have Q6:decide ((n.links.length:Int)>12)=false:=by simp;omega
 have cf:¬(n.vpcs.length>6∨n.links.length>12):=by omega
 refine pj func33 ntmps33 results33 ?_;refine am ?_<;>intros;refine bg ae ak n.vpcs (fun k=>(∀v∈n.vpcs.take k,bN v=0)∧(n.vpcs.take k).Pairwise fun a b=>a.id < b.id) (fun k=>[(25,.d (.v (.int .i64 k))),(24,.d (.v (.int .i64 n.vpcs.length))),(23,.d (.sl 3 (n.vpcs.map al))),(3,.d (.v (.int .i64 (lD (n.vpcs.take k))))),(2,.d (.v (.int .i64 0))),(1,.ptr 0 0)]) (fun _=>[.box 28 ((aK n).map .d)]) (by simp) (wf) ?_ ?_
 ·intro k v hv hk hI C hC;have dH:(k:Int) < (n.vpcs.length:Int):=by omega
  have cM:=wi k (by omega);have gU:=ag hv;have AF:lD (n.vpcs.take (k+1))=v.id:=by rw[gU,p3]
  have UC:=og v;obtain⟨LA,Q7⟩:∃x,x=lD (n.vpcs.take k):=⟨_,rfl⟩;rw[←Q7];by_cases hc:bN v=0
  ·have hid:1≤v.id:=by have:=(aY hc).id;simp[cF]at this;exact this.1
   rw[hc]at UC;by_cases hle:v.id≤LA
   ·have hr:R=1:=by
     rw[hR.out];refine gX cf (.inl ?_);cases hb:om n with
     |false=>rfl
     |true=>
      have:=(kU hb (k+1)).2;rw[gU]at this;exact absurd this (yB hid (by rw[←Q7];exact hle))
    rw[hr];clear hr hI hid hC Q7 AF gU;replace hc:=Xj hc;exact aZ;all_goals exact ai.refl _
   ·have lS:(∀v∈n.vpcs.take (k+1),bN v=0)∧(n.vpcs.take (k+1)).Pairwise fun a b=>a.id < b.id:=by
     rw[gU];exact⟨fun u hu=>by
      rcases X2.1 hu with hu|hu
      ·exact hI.1 u hu
      ·rw[Yc.1 hu];exact hc,vA hI.2 (by rw[←Q7];omega)⟩
    have je:decide (v.id≤LA)=false:=by simpa using hle
    clear hI hid gU;replace hc:=Xj hc;replace hle:=Xj hle;replace lS:=Xj lS;replace AF:=Xj AF;replace Q7:=Xj Q7;refine am ?_<;>intros;refine hC _ _ lS.out ?_;simp only[AF.out];exact wf
  ·have hr:R=1:=by
    rw[hR.out];refine gX cf (.inl ?_);cases hb:om n with
    |false=>rfl
    |true=>exact absurd ((kU hb (k+1)).1 v (by rw[gU];simp)) hc
   have W9:(bN v !=0)=true:=by simpa using hc
   rw[hr];clear hr hI hC Q7 AF gU;replace hc:=Xj hc;exact aZ;all_goals exact ai.refl _
 ·intro hI C;rw[Xt]at hI ⊢;have Mi:=vB hI.1 hI.2;have nF:=hI.2;generalize lD n.vpcs=LA;replace hI:=Xj hI;replace nF:=Xj nF;replace Mi:=Xj Mi;refine am ?_<;>intros;refine bg ae ak n.links (fun k=>(∀l∈n.links.take k,kT n l=true)∧i6 (n.links.take k)=true) (fun k=>[(44,.d (.v (.int .i64 k))),(43,.d (.v (.int .i64 n.links.length))),(42,.d (.sl 2 (n.links.map bJ))),(2,.d (.v (.int .i64 0))),(1,.ptr 0 0)]) (fun _=>[.box 28 ((aK n).map .d)]) (by simp[i6]) (wf) ?_ ?_
  ·intro k l hl hk hJ C hC;have dH:(k:Int) < (n.links.length:Int):=by omega
   have cM:=wi k (by omega);have gU:=ag hl;have jY:=B7 n l.a (by omega) nF.out;have lu:=B7 n l.b (by omega) nF.out;have bH:kT n l=false→R=1:=fun h=>by
    rw[hR.out];refine gX cf (.inr (.inl ?_));rw[Y2];exact⟨l,Xl hl,by simp[h]⟩
   have je:kT n l=((fL n l.a).isSome&&((fL n l.b).isSome&&decide (l.a < l.b))):=rfl;have gQ:kT n l=true→i6 (n.links.take (k+1))=true→(∀l∈n.links.take (k+1),kT n l=true)∧i6 (n.links.take (k+1))=true:=fun h g=>by
    refine⟨?_,g⟩;rw[gU];intro u hu;rcases X2.1 hu with hu|hu
    ·exact hJ.1 u hu
    ·rw[Yc.1 hu];exact h
   have wQ:i6 (n.links.take (k+1))=false→R=1:=fun h=>by
    rw[hR.out];refine gX cf (.inr (.inr (.inl ?_)));cases hb:i6 n.links with
    |false=>rfl
    |true=>rw[yC hb]at h;cases h
   have sU:=sw (n.links.take k) l;rw[←gU,hJ.2,Yr]at sU;clear gU;replace hJ:=Xj hJ;replace bH:=Xj bH;replace wQ:=Xj wQ;replace gQ:=Xj gQ;cases ea:fL n l.a with
   |none=>
    rw[ea]at jY je;have hr:R=1:=bH.out (by rw[je];rfl);rw[hr];clear hr je sU;replace ea:=Xj ea;cases eb:fL n l.b with
    |none=>
     rw[eb]at lu;replace eb:=Xj eb;repeat' (first|(with_reducible refine And.intro ?_ ?_)|(with_reducible refine cm (fun _=>?_) (fun _=>?_))|(with_reducible refine aA (fun _=>?_) (fun _=>?_))|(with_reducible refine be (by kernel_rfl))|simp -dsimp only[go_sem,seval, *,aK,bJ,b9,b8,dH,hl,undef]|((with_reducible refine bf ?_);simp -dsimp only[go_sem,seval,aK,bJ,b9,b8,dH,hl,undef];first|refine aC (by first|assumption|fail) (by first|exact .inl rfl|exact .inr rfl) ?_|(refine aB (by assumption) ?_ ?_ ?_;(solve|(repeat(first|exact ai.refl _|exact ai.nil _|(refine ai.tup ?_)|(refine ai.agg ?_ rfl)|exact trivial|(refine And.intro ?_ ?_))));(solve|exact .inl rfl|exact .inr rfl)))|(refine aX [0] (jY) ?_ ?_ ?_ ?_ ?_ ?_;(solve|rfl|simp only[go_sem,seval,aK,b9,b8]);(solve|rfl);(solve|decide);(solve|simp);(solve|simp only[go_sem,seval,ax,aK,b9,b8]))|(refine aX [0] (lu) ?_ ?_ ?_ ?_ ?_ ?_;(solve|rfl|simp only[go_sem,seval,aK,b9,b8]);(solve|rfl);(solve|decide);(solve|simp);(solve|simp only[go_sem,seval,ax,aK,b9,b8]))|omega|exact decide_eq_true (by omega)|exact ai.refl _)
     all_goals exact ai.refl _
    |some w=>
     rw[eb]at lu;replace eb:=Xj eb;repeat' (first|(with_reducible refine And.intro ?_ ?_)|(with_reducible refine cm (fun _=>?_) (fun _=>?_))|(with_reducible refine aA (fun _=>?_) (fun _=>?_))|(with_reducible refine be (by kernel_rfl))|simp -dsimp only[go_sem,seval, *,aK,bJ,b9,b8,dH,hl,undef]|((with_reducible refine bf ?_);simp -dsimp only[go_sem,seval,aK,bJ,b9,b8,dH,hl,undef];first|refine aC (by first|assumption|fail) (by first|exact .inl rfl|exact .inr rfl) ?_|(refine aB (by assumption) ?_ ?_ ?_;(solve|(repeat(first|exact ai.refl _|exact ai.nil _|(refine ai.tup ?_)|(refine ai.agg ?_ rfl)|exact trivial|(refine And.intro ?_ ?_))));(solve|exact .inl rfl|exact .inr rfl)))|(refine aX [0] (jY) ?_ ?_ ?_ ?_ ?_ ?_;(solve|rfl|simp only[go_sem,seval,aK,b9,b8]);(solve|rfl);(solve|decide);(solve|simp);(solve|simp only[go_sem,seval,ax,aK,b9,b8]))|(refine aX [0] (lu) ?_ ?_ ?_ ?_ ?_ ?_;(solve|rfl|simp only[go_sem,seval,aK,b9,b8]);(solve|rfl);(solve|decide);(solve|simp);(solve|simp only[go_sem,seval,ax,aK,b9,b8]))|omega|exact decide_eq_true (by omega)|exact ai.refl _)
     all_goals exact ai.refl _
   |some v=>
    rw[ea]at jY je;replace ea:=Xj ea;cases eb:fL n l.b with
    |none=>
     rw[eb]at lu je;have hr:R=1:=bH.out (by rw[je];rfl);rw[hr];clear hr je sU;replace eb:=Xj eb;repeat' (first|(with_reducible refine And.intro ?_ ?_)|(with_reducible refine cm (fun _=>?_) (fun _=>?_))|(with_reducible refine aA (fun _=>?_) (fun _=>?_))|(with_reducible refine be (by kernel_rfl))|simp -dsimp only[go_sem,seval, *,aK,bJ,b9,b8,dH,hl,undef]|((with_reducible refine bf ?_);simp -dsimp only[go_sem,seval,aK,bJ,b9,b8,dH,hl,undef];first|refine aC (by first|assumption|fail) (by first|exact .inl rfl|exact .inr rfl) ?_|(refine aB (by assumption) ?_ ?_ ?_;(solve|(repeat(first|exact ai.refl _|exact ai.nil _|(refine ai.tup ?_)|(refine ai.agg ?_ rfl)|exact trivial|(refine And.intro ?_ ?_))));(solve|exact .inl rfl|exact .inr rfl)))|(refine aX [0] (jY) ?_ ?_ ?_ ?_ ?_ ?_;(solve|rfl|simp only[go_sem,seval,aK,b9,b8]);(solve|rfl);(solve|decide);(solve|simp);(solve|simp only[go_sem,seval,ax,aK,b9,b8]))|(refine aX [0] (lu) ?_ ?_ ?_ ?_ ?_ ?_;(solve|rfl|simp only[go_sem,seval,aK,b9,b8]);(solve|rfl);(solve|decide);(solve|simp);(solve|simp only[go_sem,seval,ax,aK,b9,b8]))|omega|exact decide_eq_true (by omega)|exact ai.refl _)
     all_goals exact ai.refl _
    |some w=>
     rw[eb]at lu je;replace eb:=Xj eb;by_cases gE:l.a < l.b
     ·have hge:decide (l.a≥l.b)=false:=by simp;omega
      have hlt:kT n l=true:=by rw[je];simp[gE]
      clear je;replace hlt:=Xj hlt;by_cases hk0:k=0
      ·have Mk:decide ((k:Int)>0)=false:=by simp;omega
       have hg:=gQ.out hlt.out (by rw[sU,hk0];rfl);clear sU;replace hg:=Xj hg;replace hk0:=Xj hk0;replace gE:=Xj gE;repeat' (first|(with_reducible refine And.intro ?_ ?_)|(with_reducible refine cm (fun _=>?_) (fun _=>?_))|(with_reducible refine aA (fun _=>?_) (fun _=>?_))|(with_reducible refine be (by kernel_rfl))|simp -dsimp only[go_sem,seval, *,aK,bJ,b9,b8,dH,cM,hl,hge,Mk,undef]|((with_reducible refine bf ?_);simp -dsimp only[go_sem,seval,aK,bJ,b9,b8,dH,cM,hl,hge,Mk,undef];first|refine aC (by first|assumption|fail) (by first|exact .inl rfl|exact .inr rfl) ?_|(refine aB (by assumption) ?_ ?_ ?_;(solve|(repeat(first|exact ai.refl _|exact ai.nil _|(refine ai.tup ?_)|(refine ai.agg ?_ rfl)|exact trivial|(refine And.intro ?_ ?_))));(solve|exact .inl rfl|exact .inr rfl)))|(refine aX [0] (jY) ?_ ?_ ?_ ?_ ?_ ?_;(solve|rfl|simp only[go_sem,seval,aK,b9,b8]);(solve|rfl);(solve|decide);(solve|simp);(solve|simp only[go_sem,seval,ax,aK,b9,b8]))|(refine aX [0] (lu) ?_ ?_ ?_ ?_ ?_ ?_;(solve|rfl|simp only[go_sem,seval,aK,b9,b8]);(solve|rfl);(solve|decide);(solve|simp);(solve|simp only[go_sem,seval,ax,aK,b9,b8]))|omega|exact decide_eq_true (by omega)|exact ai.refl _)
       exact hC _ _ hg.out (wf)
      ·obtain⟨j,hj⟩:∃j,k=j+1:=⟨k - 1,by omega⟩;obtain⟨y,hy⟩:∃y,n.links[j]? =some y:=⟨_,Xk (by omega)⟩;have Mk:decide ((k:Int)>0)=true:=by simp;omega
       have cj:IntKind.i64.wrap ((k:Int) - 1)=(j:Int):=by rw[IntKind.wrap_i64];omega
       have ic:(j:Int) < (n.links.length:Int):=by omega
       have S7:=NG y l;rw[hj,sx hy]at sU;simp only at sU;rw[←hj]at sU;replace hj:=Xj hj;replace hk0:=Xj hk0;replace gE:=Xj gE;by_cases ho:qZ y l < 0
       ·have hg:=gQ.out hlt.out (by rw[sU];simpa using ho);have gk:decide (qZ y l≥0)=false:=by simpa using ho
        clear sU;replace hg:=Xj hg;replace ho:=Xj ho;generalize qZ y l=O at*;repeat' (first|(with_reducible refine And.intro ?_ ?_)|(with_reducible refine cm (fun _=>?_) (fun _=>?_))|(with_reducible refine aA (fun _=>?_) (fun _=>?_))|(with_reducible refine be (by kernel_rfl))|simp -dsimp only[go_sem,seval, *,aK,bJ,b9,b8,dH,cM,hl,hge,Mk,cj,ic,hy,gk,undef]|((with_reducible refine bf ?_);simp -dsimp only[go_sem,seval,aK,bJ,b9,b8,dH,cM,hl,hge,Mk,cj,ic,hy,gk,undef];first|refine aC (by first|assumption|exact S7) (by first|exact .inl rfl|exact .inr rfl) ?_|(refine aB (by assumption) ?_ ?_ ?_;(solve|(repeat(first|exact ai.refl _|exact ai.nil _|(refine ai.tup ?_)|(refine ai.agg ?_ rfl)|exact trivial|(refine And.intro ?_ ?_))));(solve|exact .inl rfl|exact .inr rfl)))|(refine aX [0] (jY) ?_ ?_ ?_ ?_ ?_ ?_;(solve|rfl|simp only[go_sem,seval,aK,b9,b8]);(solve|rfl);(solve|decide);(solve|simp);(solve|simp only[go_sem,seval,ax,aK,b9,b8]))|(refine aX [0] (lu) ?_ ?_ ?_ ?_ ?_ ?_;(solve|rfl|simp only[go_sem,seval,aK,b9,b8]);(solve|rfl);(solve|decide);(solve|simp);(solve|simp only[go_sem,seval,ax,aK,b9,b8]))|omega|exact decide_eq_true (by omega)|exact ai.refl _)
        exact hC _ _ hg.out (wf)
       ·have hr:R=1:=wQ.out (by rw[sU];simpa using ho);have gk:decide (qZ y l≥0)=true:=by simpa using ho
        rw[hr];clear sU hr;replace ho:=Xj ho;generalize qZ y l=O at*;repeat' (first|(with_reducible refine And.intro ?_ ?_)|(with_reducible refine cm (fun _=>?_) (fun _=>?_))|(with_reducible refine aA (fun _=>?_) (fun _=>?_))|(with_reducible refine be (by kernel_rfl))|simp -dsimp only[go_sem,seval, *,aK,bJ,b9,b8,dH,cM,hl,hge,Mk,cj,ic,hy,gk,undef]|((with_reducible refine bf ?_);simp -dsimp only[go_sem,seval,aK,bJ,b9,b8,dH,cM,hl,hge,Mk,cj,ic,hy,gk,undef];first|refine aC (by first|assumption|exact S7) (by first|exact .inl rfl|exact .inr rfl) ?_|(refine aB (by assumption) ?_ ?_ ?_;(solve|(repeat(first|exact ai.refl _|exact ai.nil _|(refine ai.tup ?_)|(refine ai.agg ?_ rfl)|exact trivial|(refine And.intro ?_ ?_))));(solve|exact .inl rfl|exact .inr rfl)))|(refine aX [0] (jY) ?_ ?_ ?_ ?_ ?_ ?_;(solve|rfl|simp only[go_sem,seval,aK,b9,b8]);(solve|rfl);(solve|decide);(solve|simp);(solve|simp only[go_sem,seval,ax,aK,b9,b8]))|(refine aX [0] (lu) ?_ ?_ ?_ ?_ ?_ ?_;(solve|rfl|simp only[go_sem,seval,aK,b9,b8]);(solve|rfl);(solve|decide);(solve|simp);(solve|simp only[go_sem,seval,ax,aK,b9,b8]))|omega|exact decide_eq_true (by omega)|exact ai.refl _)
        all_goals exact ai.refl _
     ·have hge:decide (l.a≥l.b)=true:=by simp;omega
      have hr:R=1:=bH.out (by rw[je];simp;omega);rw[hr];clear hr je sU;replace gE:=Xj gE;repeat' (first|(with_reducible refine And.intro ?_ ?_)|(with_reducible refine cm (fun _=>?_) (fun _=>?_))|(with_reducible refine aA (fun _=>?_) (fun _=>?_))|(with_reducible refine be (by kernel_rfl))|simp -dsimp only[go_sem,seval, *,aK,bJ,b9,b8,dH,hl,hge,undef]|((with_reducible refine bf ?_);simp -dsimp only[go_sem,seval,aK,bJ,b9,b8,dH,hl,hge,undef];first|refine aC (by first|assumption|fail) (by first|exact .inl rfl|exact .inr rfl) ?_|(refine aB (by assumption) ?_ ?_ ?_;(solve|(repeat(first|exact ai.refl _|exact ai.nil _|(refine ai.tup ?_)|(refine ai.agg ?_ rfl)|exact trivial|(refine And.intro ?_ ?_))));(solve|exact .inl rfl|exact .inr rfl)))|(refine aX [0] (jY) ?_ ?_ ?_ ?_ ?_ ?_;(solve|rfl|simp only[go_sem,seval,aK,b9,b8]);(solve|rfl);(solve|decide);(solve|simp);(solve|simp only[go_sem,seval,ax,aK,b9,b8]))|(refine aX [0] (lu) ?_ ?_ ?_ ?_ ?_ ?_;(solve|rfl|simp only[go_sem,seval,aK,b9,b8]);(solve|rfl);(solve|decide);(solve|simp);(solve|simp only[go_sem,seval,ax,aK,b9,b8]))|omega|exact decide_eq_true (by omega)|exact ai.refl _)
      all_goals exact ai.refl _
  ·intro hJ C;rw[Xt]at hJ;have Dw:=zV n (by omega) (by omega) (fun v hv=>by have:=(aY (hI.out.1 v hv)).n4;omega) (fun l hl=>by
    have:=hJ.1 l hl;unfold kT at this;simp only[Xy]at this;exact⟨fN this.1,fN this.2.1⟩)
   have hr:R=if ez n=true then 0 else 1:=by
    rw[hR.out];split
    ·rename_i hp;exact sv cf Mi.out (by rw[XE];exact hJ.1) hJ.2 hp
    ·rename_i hp;exact gX cf (.inr (.inr (.inr (by simpa using hp))))
   rw[hr];clear hr;replace hJ:=Xj hJ;cases hp:ez n with
   |true=>
    rw[hp]at Dw;replace hp:=Xj hp;exact aZ;all_goals exact ai.refl _
   |false=>
    rw[hp]at Dw;replace hp:=Xj hp;exact aZ;all_goals exact ai.refl _
structure NetOK (n:Net):Prop where
 n6:n.vpcs.length≤6
 n12:n.links.length≤12
 vp:∀v∈n.vpcs,bN v=0
 rise:n.vpcs.Pairwise fun a b=>a.id < b.id
 lk:∀l∈n.links,kT n l=true
 rk:i6 n.links=true
 pe:ez n=true
theorem gO {n:Net}:cK n=0↔NetOK n:=by
 constructor
 ·intro h;unfold cK at h;split at h
  ·cases h
  ·rename_i h0;split at h
   ·rename_i h1;simp only[Xy]at h1;have:=kU h1.1 n.vpcs.length;rw[Xt]at this;exact⟨by omega,by omega,this.1,this.2,by simpa using h1.2.1,h1.2.2.1,h1.2.2.2⟩
   ·cases h
 ·rintro⟨a,b,c,d,e,f,g⟩;exact sv (by omega) (vB c d) (by simpa using e) f g
theorem NetOK.ids {n:Net}(h:NetOK n):∀l∈n.links,l.a∈n.vpcs.map (·.id)∧l.b∈n.vpcs.map (·.id):=fun l hl=>by
 have:=h.lk l hl;unfold kT at this;simp only[Xy]at this;exact⟨fN this.1,fN this.2.1⟩
theorem yD {α:Type}{enc:α→List D}(eB:∀x,(enc x).length=9)(p:α→Bool)(l:List α)(g:Nat)(caps:List D)(hl:l.length≤1000000000)(hc:∀x∈l,af prog g (.agg (enc x)::caps) (.v (.bool (p x)))):
 af prog 199 [.sl 9 (l.map enc),.clo g caps] (.v (.int .i64 (cv p l))):=by
 refine pj func199 ntmps199 results199 ?_;refine am ?_<;>intros;refine bL ae ak (fun m e h=>∃k:Nat,k≤l.length∧(∀x∈l.take k,p x=false)∧m=l.length - k∧e=[(8,.d (.v (.int .i64 k))),(7,.d (.v (.int .i64 l.length))),(4,.d (.v (.int .i64 0))),(1,.d (.clo g caps)),(0,.d (.sl 9 (l.map enc)))]∧h=[]) _ _ _ ⟨0,XD _,by simp,rfl,rfl,rfl⟩ ?_ ?_
 ·exact wf (x:=[]) (hh:=rfl) (he:=⟨rfl,rfl,rfl,rfl,rfl,trivial⟩)
 ·rintro m e h ⟨k,hk,cf,rfl,rfl,rfl⟩ CL mJ;by_cases hlt:k < l.length
  ·obtain⟨x,hx⟩:∃x,l[k]? =some x:=⟨_,Xk hlt⟩;have en:(k:Int) < (l.length:Int):=by omega
   have cM:=wi k (by omega);have bT:=eB x;have gU:(enc x).take 9=enc x:=XN (by omega);have jC:=hc x (Xl hx);cases hp:p x with
   |false=>
    rw[hp]at jC;refine am ?_<;>intros;refine mJ _ _ _ _ _ ?_ ⟨k+1,hlt,?_,rfl,rfl,rfl⟩ (wf (x:=[]) (hh:=rfl) (he:=⟨rfl,rfl,rfl,rfl,rfl,trivial⟩))
    ·omega
    ·intro y hy;rw[ag hx]at hy;rcases X2.1 hy with hy|hy
     ·exact cf y hy
     ·rw[Yc]at hy;rw[hy];exact hp
   |true=>
    rw[hp]at jC;have ld:cv p l=k:=fV hx hp cf;exact aZ;all_goals rw[ld]
    all_goals exact ai.refl _
  ·obtain rfl:k=l.length:=by omega
   rw[Xt]at cf;refine am ?_<;>intros;all_goals rw[fW cf]
   all_goals exact ai.refl _
theorem HI {α:Type}{enc:α→List D}(eB:∀x,(enc x).length=9)(p:α→Bool)(l:List α)(g:Nat)(caps:List D)(hl:l.length≤1000000000)(hc:∀x∈l,af prog g (.agg (enc x)::caps) (.v (.bool (p x)))):
 af prog 117 [.sl 9 (l.map enc),.clo g caps] (.v (.bool (l.any p))):=by
 have hi:=yD eB p l g caps hl hc;have im:=fK p l;refine pj func117 ntmps117 results117 ?_;exact aZ;all_goals exact ai.refl _
theorem mW {α:Type}{enc:α→List D}(eB:∀x,(enc x).length=5)(p:α→Bool)(l:List α)(g:Nat)(caps:List D)(hl:l.length≤1000000000)(hc:∀x∈l,af prog g (.agg (enc x)::caps) (.v (.bool (p x)))):
 af prog 124 [.sl 5 (l.map enc),.clo g caps] (.v (.int .i64 (cv p l))):=by
 refine pj func124 ntmps124 results124 ?_;refine am ?_<;>intros;refine bL ae ak (fun m e h=>∃k:Nat,k≤l.length∧(∀x∈l.take k,p x=false)∧m=l.length - k∧e=[(8,.d (.v (.int .i64 k))),(7,.d (.v (.int .i64 l.length))),(4,.d (.v (.int .i64 0))),(1,.d (.clo g caps)),(0,.d (.sl 5 (l.map enc)))]∧h=[]) _ _ _ ⟨0,XD _,by simp,rfl,rfl,rfl⟩ ?_ ?_
 ·exact wf (x:=[]) (hh:=rfl) (he:=⟨rfl,rfl,rfl,rfl,rfl,trivial⟩)
 ·rintro m e h ⟨k,hk,cf,rfl,rfl,rfl⟩ CL mJ;by_cases hlt:k < l.length
  ·obtain⟨x,hx⟩:∃x,l[k]? =some x:=⟨_,Xk hlt⟩;have en:(k:Int) < (l.length:Int):=by omega
   have cM:=wi k (by omega);have bT:=eB x;have gU:(enc x).take 5=enc x:=XN (by omega);have jC:=hc x (Xl hx);cases hp:p x with
   |false=>
    rw[hp]at jC;refine am ?_<;>intros;refine mJ _ _ _ _ _ ?_ ⟨k+1,hlt,?_,rfl,rfl,rfl⟩ (wf (x:=[]) (hh:=rfl) (he:=⟨rfl,rfl,rfl,rfl,rfl,trivial⟩))
    ·omega
    ·intro y hy;rw[ag hx]at hy;rcases X2.1 hy with hy|hy
     ·exact cf y hy
     ·rw[Yc]at hy;rw[hy];exact hp
   |true=>
    rw[hp]at jC;have ld:cv p l=k:=fV hx hp cf;exact aZ;all_goals rw[ld]
    all_goals exact ai.refl _
  ·obtain rfl:k=l.length:=by omega
   rw[Xt]at cf;refine am ?_<;>intros;all_goals rw[fW cf]
   all_goals exact ai.refl _
theorem p4 {α:Type}{enc:α→List D}(eB:∀x,(enc x).length=5)(p:α→Bool)(l:List α)(g:Nat)(caps:List D)(hl:l.length≤1000000000)(hc:∀x∈l,af prog g (.agg (enc x)::caps) (.v (.bool (p x)))):
 af prog 92 [.sl 5 (l.map enc),.clo g caps] (.v (.bool (l.any p))):=by
 have hi:=mW eB p l g caps hl hc;have im:=fK p l;refine pj func92 ntmps92 results92 ?_;exact aZ;all_goals exact ai.refl _
theorem Kn (a b:Int):af prog 228 [.v (.int .i64 a),.v (.int .i64 b)] (.v (.bool (decide (a < b)))):=by
 cases h:decide (a < b)with
 |true=>
  refine pj func228 ntmps228 results228 ?_;have z1z:=ki a;have z2z:=ki b;exact aZ;all_goals exact ai.refl _
 |false=>
  refine pj func228 ntmps228 results228 ?_;have z1z:=ki a;have z2z:=ki b;exact aZ;all_goals exact ai.refl _
theorem sy {α:Type}{enc:α→List D}(eB:∀x,(enc x).length=9)(key:α→Int)(l:List α)(t:Int)(g:Nat)(caps:List D)(hl:l.length≤1000000000)(hs:l.Pairwise fun a b=>key a < key b)(hc:∀x∈l,af prog g (.agg (enc x):: .v (.int .i64 t)::caps) (.v (.int .i64 (ep (key x) t)))):
 af prog 197 [.sl 9 (l.map enc),.v (.int .i64 t),.clo g caps] (.tup [.v (.int .i64 (i8 key t l)),.v (.bool (qN key t l))]):=by
 refine pj func197 ntmps197 results197 ?_;refine am ?_<;>intros;refine bL ae ak (fun m e h=>∃i j:Nat,i≤j∧j≤l.length∧(∀q (hq:q < l.length),q < i→key l[q] < t)∧(∀q (hq:q < l.length),j≤q→t≤key l[q])∧m=j - i∧
  e=[(10,.d (.v (.int .i64 j))),(9,.d (.v (.int .i64 i))),(8,.d (.v (.int .i64 l.length))),(7,.d (.v (.bool false))),(6,.d (.v (.int .i64 0))),(2,.d (.clo g caps)),(1,.d (.v (.int .i64 t))),(0,.d (.sl 9 (l.map enc)))]∧h=[]) _ _ _ ⟨0,l.length,XD _,XB _,fun q hq h=>absurd h (YJ _),fun q hq h=>by omega,rfl,rfl,rfl⟩ ?_ ?_
 ·exact wf (x:=[]) (hh:=rfl) (he:=⟨rfl,rfl,rfl,rfl,rfl,rfl,rfl,rfl,trivial⟩)
 ·rintro m e h ⟨i,j,hij,hj,iZ,jX,rfl,rfl,rfl⟩ CL mJ;by_cases hlt:i < j
  ·obtain⟨q,hq⟩:∃q,q=(i+j) / 2:=⟨_,rfl⟩;have sS:q < l.length:=by omega
   obtain⟨x,hx⟩:∃x,l[q]? =some x:=⟨_,Xk sS⟩;have nE:l[q]=x:=by rw[Xk sS]at hx;exact XX.inj hx
   have en:(i:Int) < (j:Int):=by omega
   have cj:IntKind.i64.wrap ((i:Int)+(j:Int))=((i+j:Nat):Int):=by rw[IntKind.wrap_i64];omega
   have cA:IntKind.u64.wrap ((i+j:Nat):Int)=((i+j:Nat):Int):=by rw[vf];omega
   have PC:(((i+j:Nat):Int)).fdiv (2 ^ min 1 64)=(q:Int):=by
    rw[hq,show (min 1 64:Nat)=1 from rfl,Int.pow_succ,Int.pow_zero,Int.one_mul,Z5 _ (by omega)];omega
   have lT:IntKind.i64.wrap (q:Int)=(q:Int):=by rw[IntKind.wrap_i64];omega
   have AG:=wi q (by omega);have bT:=eB x;have gU:(enc x).take 9=enc x:=XN (by omega);have jC:=hc x (Xl hx);have I2:=qM (key x) t;have VZ:i≤q∧q < j:=by omega
   replace hq:=Xj hq;by_cases hk:key x < t
   ·have dH:decide (key x < t)=true:=by simpa using hk
    refine am ?_<;>intros;refine mJ _ _ _ _ _ ?_ ⟨q+1,j,by omega,hj,?_,jX,rfl,rfl,rfl⟩ (wf (x:=[]) (hh:=rfl) (he:=⟨rfl,rfl,rfl,rfl,rfl,rfl,rfl,rfl,trivial⟩))
    ·omega
    ·intro q' hq' IN;rcases XP q' q with h1|h1
     ·have:=XF.1 hs q' q hq' sS h1;rw[nE]at this;omega
     ·obtain rfl:q'=q:=by omega
      rw[nE];exact hk
   ·have dH:decide (key x < t)=false:=by simpa using hk
    refine am ?_<;>intros;refine mJ _ _ _ _ _ ?_ ⟨i,q,by omega,by omega,iZ,?_,rfl,rfl,rfl⟩ (wf (x:=[]) (hh:=rfl) (he:=⟨rfl,rfl,rfl,rfl,rfl,rfl,rfl,rfl,trivial⟩))
    ·omega
    ·intro q' hq' IN;rcases XP q q' with h1|h1
     ·have:=XF.1 hs q q' sS hq' h1;rw[nE]at this;omega
     ·obtain rfl:q'=q:=by omega
      rw[nE];omega
  ·obtain rfl:i=j:=by omega
   have je:=pT hj iZ jX;have rK:qN key t l=match l[i]? with|some x=>key x==t|none=>false:=by unfold qN;rw[je];all_goals(cases l[i]? <;>rfl)
   replace je:=Xj je;replace rK:=Xj rK;by_cases dB:i < l.length
   ·obtain⟨x,hx⟩:∃x,l[i]? =some x:=⟨_,Xk dB⟩;have Mg:decide ((i:Int) < (l.length:Int))=true:=by simpa using dB
    have bT:=eB x;have gU:(enc x).take 9=enc x:=XN (by omega);have jC:=hc x (Xl hx);have V0:=sk (key x) t;refine am ?_<;>intros;all_goals rw[rK.out,hx,je.out]
    all_goals exact ai.refl _
   ·have Mg:decide ((i:Int) < (l.length:Int))=false:=by simpa using dB
    refine am ?_<;>intros;all_goals rw[rK.out,je.out,XT (by omega)]
    all_goals exact ai.refl _
theorem Em {α:Type}{enc:α→List D}(eB:∀x,(enc x).length=5)(key:α→Int)(l:List α)(t:Int)(g:Nat)(caps:List D)(hl:l.length≤1000000000)(hs:l.Pairwise fun a b=>key a < key b)(hc:∀x∈l,af prog g (.agg (enc x):: .v (.int .i64 t)::caps) (.v (.int .i64 (ep (key x) t)))):
 af prog 202 [.sl 5 (l.map enc),.v (.int .i64 t),.clo g caps] (.tup [.v (.int .i64 (i8 key t l)),.v (.bool (qN key t l))]):=by
 refine pj func202 ntmps202 results202 ?_;refine am ?_<;>intros;refine bL ae ak (fun m e h=>∃i j:Nat,i≤j∧j≤l.length∧(∀q (hq:q < l.length),q < i→key l[q] < t)∧(∀q (hq:q < l.length),j≤q→t≤key l[q])∧m=j - i∧
  e=[(10,.d (.v (.int .i64 j))),(9,.d (.v (.int .i64 i))),(8,.d (.v (.int .i64 l.length))),(7,.d (.v (.bool false))),(6,.d (.v (.int .i64 0))),(2,.d (.clo g caps)),(1,.d (.v (.int .i64 t))),(0,.d (.sl 5 (l.map enc)))]∧h=[]) _ _ _ ⟨0,l.length,XD _,XB _,fun q hq h=>absurd h (YJ _),fun q hq h=>by omega,rfl,rfl,rfl⟩ ?_ ?_
 ·exact wf (x:=[]) (hh:=rfl) (he:=⟨rfl,rfl,rfl,rfl,rfl,rfl,rfl,rfl,trivial⟩)
 ·rintro m e h ⟨i,j,hij,hj,iZ,jX,rfl,rfl,rfl⟩ CL mJ;by_cases hlt:i < j
  ·obtain⟨q,hq⟩:∃q,q=(i+j) / 2:=⟨_,rfl⟩;have sS:q < l.length:=by omega
   obtain⟨x,hx⟩:∃x,l[q]? =some x:=⟨_,Xk sS⟩;have nE:l[q]=x:=by rw[Xk sS]at hx;exact XX.inj hx
   have en:(i:Int) < (j:Int):=by omega
   have cj:IntKind.i64.wrap ((i:Int)+(j:Int))=((i+j:Nat):Int):=by rw[IntKind.wrap_i64];omega
   have cA:IntKind.u64.wrap ((i+j:Nat):Int)=((i+j:Nat):Int):=by rw[vf];omega
   have PC:(((i+j:Nat):Int)).fdiv (2 ^ min 1 64)=(q:Int):=by
    rw[hq,show (min 1 64:Nat)=1 from rfl,Int.pow_succ,Int.pow_zero,Int.one_mul,Z5 _ (by omega)];omega
   have lT:IntKind.i64.wrap (q:Int)=(q:Int):=by rw[IntKind.wrap_i64];omega
   have AG:=wi q (by omega);have bT:=eB x;have gU:(enc x).take 5=enc x:=XN (by omega);have jC:=hc x (Xl hx);have I2:=qM (key x) t;have VZ:i≤q∧q < j:=by omega
   replace hq:=Xj hq;by_cases hk:key x < t
   ·have dH:decide (key x < t)=true:=by simpa using hk
    refine am ?_<;>intros;refine mJ _ _ _ _ _ ?_ ⟨q+1,j,by omega,hj,?_,jX,rfl,rfl,rfl⟩ (wf (x:=[]) (hh:=rfl) (he:=⟨rfl,rfl,rfl,rfl,rfl,rfl,rfl,rfl,trivial⟩))
    ·omega
    ·intro q' hq' IN;rcases XP q' q with h1|h1
     ·have:=XF.1 hs q' q hq' sS h1;rw[nE]at this;omega
     ·obtain rfl:q'=q:=by omega
      rw[nE];exact hk
   ·have dH:decide (key x < t)=false:=by simpa using hk
    refine am ?_<;>intros;refine mJ _ _ _ _ _ ?_ ⟨i,q,by omega,by omega,iZ,?_,rfl,rfl,rfl⟩ (wf (x:=[]) (hh:=rfl) (he:=⟨rfl,rfl,rfl,rfl,rfl,rfl,rfl,rfl,trivial⟩))
    ·omega
    ·intro q' hq' IN;rcases XP q q' with h1|h1
     ·have:=XF.1 hs q q' sS hq' h1;rw[nE]at this;omega
     ·obtain rfl:q'=q:=by omega
      rw[nE];omega
  ·obtain rfl:i=j:=by omega
   have je:=pT hj iZ jX;have rK:qN key t l=match l[i]? with|some x=>key x==t|none=>false:=by unfold qN;rw[je];all_goals(cases l[i]? <;>rfl)
   replace je:=Xj je;replace rK:=Xj rK;by_cases dB:i < l.length
   ·obtain⟨x,hx⟩:∃x,l[i]? =some x:=⟨_,Xk dB⟩;have Mg:decide ((i:Int) < (l.length:Int))=true:=by simpa using dB
    have bT:=eB x;have gU:(enc x).take 5=enc x:=XN (by omega);have jC:=hc x (Xl hx);have V0:=sk (key x) t;refine am ?_<;>intros;all_goals rw[rK.out,hx,je.out]
    all_goals exact ai.refl _
   ·have Mg:decide ((i:Int) < (l.length:Int))=false:=by simpa using dB
    refine am ?_<;>intros;all_goals rw[rK.out,je.out,XT (by omega)]
    all_goals exact ai.refl _
section
open Go.Proofs
section
variable {w:World}{b o:Nat}{c0 c1 c2 c3 c4 c5 c6 c7 c8:Value}
theorem jm (h:lv w b o [c0,c1]):w.cell? ⟨b,o,none⟩=some c0∧w.cell? ⟨b,o+1,none⟩=some c1:=⟨h 0 (by simp),h 1 (by simp)⟩
end
theorem eJ {w w':World}{b o:Nat}{cs:List Value}(hx:dw w w')(h:lv w b o cs):lv w' b o cs:=fun j hj=>bV hx (h j hj)
theorem Sl.ext {α:Type}{A:lU}{w w':World}{k:Nat}{R:List Value→α→Prop}{ao:Option Addr}{cap:Nat}{l:List α}(h:Sl A w k R ao cap l)(hx:dw w w'):Sl A w' k R ao cap l:=by
 refine⟨h.cap_le,h.cap_max,fun i hi=>?_⟩;obtain⟨b,off,cs,h1,h2,h3,h4,h5⟩:=h.elem i hi;exact⟨b,off,cs,h1,h2,h3,h4,eJ hx h5⟩
theorem Sl.nil {α:Type}{A:lU}{w:World}{k:Nat}{R:List Value→α→Prop}{ao:Option Addr}{cap:Nat}(h:cap≤9223372036854775807):Sl A w k R ao cap ([]:List α):=
 ⟨XD _,h,fun i hi=>by simp at hi⟩
theorem Sl.take {α:Type}{A:lU}{w:World}{k:Nat}{R:List Value→α→Prop}{ao:Option Addr}{cap:Nat}{l:List α}(h:Sl A w k R ao cap l)(n:Nat):Sl A w k R ao cap (l.take n):=by
 refine⟨Yy (List.length_take_le' n l) h.cap_le,h.cap_max,fun i hi=>?_⟩;have hi':i < l.length:=by rw[Xp]at hi;omega
 obtain⟨b,off,cs,h1,h2,h3,h4,h5⟩:=h.elem i hi';exact⟨b,off,cs,h1,h2,h3,by rw[ZA];exact h4,h5⟩
theorem Sl.mono {α:Type}{A:lU}{w:World}{k:Nat}{R R':List Value→α→Prop}{ao:Option Addr}{cap:Nat}{l:List α}(h:Sl A w k R ao cap l)(hR:∀cs x,x∈l→R cs x→R' cs x):Sl A w k R' ao cap l:=by
 refine⟨h.cap_le,h.cap_max,fun i hi=>?_⟩;obtain⟨b,off,cs,h1,h2,h3,h4,h5⟩:=h.elem i hi;exact⟨b,off,cs,h1,h2,h3,hR _ _ (Ym hi) h4,h5⟩
def nr {α:Type}(p:α→Bool)(l:List α):Int:=match l.findIdx? p with|some i=>(i:Int)|none=> -1
theorem FY {α:Type}{p:α→Bool}{l:List α}{k:Nat}(hk:k < l.length)(hp:p l[k]=true)(hn:∀j (h:j < k),p (l[j]'(by omega))=false):nr p l=k:=by
 have:l.findIdx? p=some k:=by
  rw[XH];exact⟨hk,hp,fun j hj=>by simp[hn j hj]⟩
 unfold nr;rw[this]
theorem Ca {α:Type}{p:α→Bool}{l:List α}(hn:∀j (h:j < l.length),p l[j]=false):nr p l= -1:=by
 have:l.findIdx? p=none:=by
  rw[Yn];intro x hx;obtain⟨j,hj,rfl⟩:=X0.1 hx;exact hn j hj
 unfold nr;rw[this]
theorem FZ {α:Type}(p:α→Bool)(l:List α):decide (nr p l≥0)=l.any p:=by
 unfold nr;cases h:l.findIdx? p with
 |none=>
  rw[Yn]at h;have:l.any p=false:=by rw[Yh];intro x hx;simp[h x hx]
  rw[this];rfl
 |some i=>
  rw[XH]at h;obtain⟨hi,hp,_⟩:=h;have:l.any p=true:=by rw[XU];exact⟨l[i],Ym hi,hp⟩
  rw[this];simp
def Ko {α:Type}(P:Program)(g:Nat)(lb:Array Value)(R:List Value→α→Prop)(p:α→Bool)(l:List α)(w:World):Prop:=
 ∀W,dw w W→∀x∈l,∀cs,R cs x→Calls P g (#[.agg cs.toArray]++lb) W fun e w'=>e= .returned (.bool (p x))∧dw W w'
end
section
open Go.Proofs
theorem Cb {α:Type}{A:lU}{R:List Value→α→Prop}(g:Nat)(lb:Array Value)(eg:∀args w,(callFunc g args).run prog w= .ok (.enter g args) w)(p:α→Bool)(l:List α)(ao:Option Addr)(cap:Nat)(w:World)(h:Sl A w 2 R ao cap l)(hp:Ko prog g lb R p l w):
 Calls prog 179 #[.slice ao l.length cap,.func (.func g) #[] lb] w fun e w'=>e= .returned (.int .i64 (nr p l))∧dw w w':=by
 have fS:=h.cap_le;have I2:=h.cap_max;obtain⟨r,hr⟩:∃r,r=nr p l:=⟨_,rfl⟩;rw[←hr];replace hr:=Xj hr;replace hp:=Xj hp;go_enter func179,ntmps179
 go_wp2_with fail
 go_loopw [5,8] (fun _ s8 wr=>∃k:Nat,k≤l.length∧s8= .int .i64 k∧Hid (∀j (h:j < k) (h':j < l.length),p l[j]=false)∧dw w wr) (fun _ s8 _=>l.length - (intOf s8).toNat)
 case atStart=>exact⟨0,XD _,rfl,Xj (fun j hj=>absurd hj (YJ _)),Below.refl _ w⟩
 case round=>
  obtain⟨k,hk,rfl,bP,hx⟩:=hrel;by_cases hlt:k < l.length
  ·have en:(k:Int) < (l.length:Int):=by omega
   obtain⟨b,off,cs,rfl,-,bT,hR,fl⟩:=h.elem k hlt;have iW:=hp.out wr hx l[k] (Ym hlt) cs hR;replace fl:=eJ hx fl;obtain⟨q,hq⟩:∃q,q=p l[k]:=⟨_,rfl⟩;rw[←hq]at iW;replace hq:=Xj hq;clear h hR;match cs,bT with
   |[v0,v1],_=>
    obtain⟨k0,k1⟩:=jm fl;clear fl;replace iW:=Xj iW;cases q
    case true=>
     go_wp2_with fail
     refine iW.out.mono ?_;rintro e w1 ⟨rfl,nj⟩;go_wp2_with fail
     go_ret
     exact⟨ce (by rw[hr.out];exact(FY hlt hq.out.symm fun j hj=>bP.out j hj (by omega)).symm),aj hx nj⟩
    case false=>
     go_wp2_with fail
     refine iW.out.mono ?_;rintro e w1 ⟨rfl,nj⟩;go_wp2_with fail
     go_roundw
     case rel=>exact⟨k+1,by omega,by go_num,Xj (fun j hj hj'=>by
      rcases G' (Q' hj)with h1|h1
      ·exact bP.out j h1 hj'
      ·subst h1;exact hq.out.symm),aj hx nj⟩
     case measure=>simp[intOf];omega
  ·have en:¬(k:Int) < (l.length:Int):=by omega
   obtain rfl:k=l.length:=by omega
   go_wp2_with fail
   go_ret
   exact⟨ce (by rw[hr.out];exact(Ca fun j hj=>bP.out j hj hj).symm),hx⟩
theorem vD {α:Type}{A:lU}{R:List Value→α→Prop}(g:Nat)(lb:Array Value)(eg:∀args w,(callFunc g args).run prog w= .ok (.enter g args) w)(p:α→Bool)(l:List α)(ao:Option Addr)(cap:Nat)(w:World)(h:Sl A w 2 R ao cap l)(hp:Ko prog g lb R p l w):
 Calls prog 95 #[.slice ao l.length cap,.func (.func g) #[] lb] w fun e w'=>e= .returned (.bool (l.any p))∧dw w w':=by
 have hc:=Cb g lb eg p l ao cap w h hp;have ha:=FZ p l;obtain⟨r,hr⟩:∃r,r=nr p l:=⟨_,rfl⟩;rw[←hr]at hc ha;rw[←ha];clear hr ha h hp;replace hc:=Xj hc;go_enter func95,ntmps95
 go_wp2_with fail
 refine hc.out.mono ?_;rintro e w1 ⟨rfl,nj⟩;go_wp2_with fail
 go_ret
 exact⟨rfl,nj⟩
end
section
open Go.Proofs
theorem NN {A:lU}(v:Pfx)(l:List Pfx)(ao:Option Addr)(cap:Nat)(w:World)(h:Sl A w 2 db ao cap l):
 Calls prog 334 #[.slice ao l.length cap,.agg #[.int .i64 v.at_,.int .i64 v.len]] w fun e w'=>e= .returned (.int .i64 (nr (fun x=>decide (v=x)) l))∧dw w w':=by
 have fS:=h.cap_le;have I2:=h.cap_max;obtain⟨r,hr⟩:∃r,r=nr (fun x=>decide (v=x)) l:=⟨_,rfl⟩;rw[←hr];replace hr:=Xj hr;go_enter func334,ntmps334
 go_wp2_with fail
 go_loopw [5,8] (fun _ s8 wr=>∃k:Nat,k≤l.length∧s8= .int .i64 k∧Hid (∀j (h:j < k) (h':j < l.length),decide (v=l[j])=false)∧dw (w.alloc (.cells #[.int .i64 v.at_,.int .i64 v.len] 32)) wr) (fun _ s8 _=>l.length - (intOf s8).toNat)
 case atStart=>exact⟨0,XD _,rfl,Xj (fun j hj=>absurd hj (YJ _)),Below.refl _ _⟩
 case round=>
  obtain⟨k,hk,rfl,bP,hx⟩:=hrel;by_cases hlt:k < l.length
  ·have en:(k:Int) < (l.length:Int):=by omega
   obtain⟨b,off,cs,rfl,-,bT,hR,fl⟩:=h.elem k hlt;replace fl:=eJ hx (eJ (aw _ _) fl);unfold db at hR;subst hR;obtain⟨k0,k1⟩:=jm fl;have p0:wr.cell? ⟨w.heap.size,0,none⟩=some (.int .i64 v.at_):=bV hx (by simp);have p1:wr.cell? ⟨w.heap.size,1,none⟩=some (.int .i64 v.len):=bV hx (by simp);have lb:=dC k0;have lp:=dC p0;obtain⟨y,hy⟩:∃y,y=l[k]:=⟨_,rfl⟩;rw[←hy]at k0 k1;replace hy:=Xj hy;clear fl h;by_cases e0:v.at_=y.at_
   ·by_cases e1:v.len=y.len
    ·have he:decide (v=y)=true:=by simp;cases v;cases y;simp_all
     replace he:=Xj he;go_wp2_with fail
     refine bZ (by kernel_rfl) (by kernel_rfl) (fun _ _ d _ _ h=>by cases d<;>exact h) ?_;repeat(first|((first|refine br rfl rfl rfl (by with_reducible rfl) ?_|refine bs rfl rfl rfl (by with_reducible rfl) ?_|refine bt rfl rfl rfl (by with_reducible rfl) ?_);simp only[Act.put,Xq,Xv,Xx])|(apply cg;(first|exact bx rfl|exact bD rfl rfl rfl (by with_reducible rfl));intro wq cL R hR;((have ef:=(aJ cL).1;(try simp only[Xr,aa,Xw,Xs]at ef));go_simp;first|exact hR|(fail));simp only[Act.put,Xq,Xv,Xx]))
     refine dJ ?_;intro w2 cA;obtain⟨dN,dA⟩:=aJ cA;have dO:=bq cA;(try simp only[Xr,aa,Xw,Xs]at dN dA dO)
     go_wp2_with fail
     go_ret
     exact⟨ce (by rw[hr.out];exact(FY hlt (by rw[←hy.out];exact he.out) fun j hj=>bP.out j hj (by omega)).symm),aj (aw _ _) (aj hx cA)⟩
    ·have he:decide (v=y)=false:=by simp;intro h;exact e1 (by rw[h])
     replace he:=Xj he;go_wp2_with fail
     refine bZ (by kernel_rfl) (by kernel_rfl) (fun _ _ d _ _ h=>by cases d<;>exact h) ?_;repeat(first|((first|refine br rfl rfl rfl (by with_reducible rfl) ?_|refine bs rfl rfl rfl (by with_reducible rfl) ?_|refine bt rfl rfl rfl (by with_reducible rfl) ?_);simp only[Act.put,Xq,Xv,Xx])|(apply cg;(first|exact bx rfl|exact bD rfl rfl rfl (by with_reducible rfl));intro wq cL R hR;((have ef:=(aJ cL).1;(try simp only[Xr,aa,Xw,Xs]at ef));go_simp;first|exact hR|(fail));simp only[Act.put,Xq,Xv,Xx]))
     refine dJ ?_;intro w2 cA;obtain⟨dN,dA⟩:=aJ cA;have dO:=bq cA;(try simp only[Xr,aa,Xw,Xs]at dN dA dO)
     go_wp2_with fail
     go_roundw
     case rel=>exact⟨k+1,by omega,by go_num,Xj (fun j hj hj'=>by
      rcases G' (Q' hj)with h1|h1
      ·exact bP.out j h1 hj'
      ·subst h1;rw[←hy.out];exact he.out),aj hx cA⟩
     case measure=>simp[intOf];omega
   ·have he:decide (v=y)=false:=by simp;intro h;exact e0 (by rw[h])
    replace he:=Xj he;go_wp2_with fail
    refine bZ (by kernel_rfl) (by kernel_rfl) (fun _ _ d _ _ h=>by cases d<;>exact h) ?_;repeat(first|((first|refine br rfl rfl rfl (by with_reducible rfl) ?_|refine bs rfl rfl rfl (by with_reducible rfl) ?_|refine bt rfl rfl rfl (by with_reducible rfl) ?_);simp only[Act.put,Xq,Xv,Xx])|(apply cg;(first|exact bx rfl|exact bD rfl rfl rfl (by with_reducible rfl));intro wq cL R hR;((have ef:=(aJ cL).1;(try simp only[Xr,aa,Xw,Xs]at ef));go_simp;first|exact hR|(fail));simp only[Act.put,Xq,Xv,Xx]))
    refine dJ ?_;intro w2 cA;obtain⟨dN,dA⟩:=aJ cA;have dO:=bq cA;(try simp only[Xr,aa,Xw,Xs]at dN dA dO)
    go_wp2_with fail
    go_roundw
    case rel=>exact⟨k+1,by omega,by go_num,Xj (fun j hj hj'=>by
     rcases G' (Q' hj)with h1|h1
     ·exact bP.out j h1 hj'
     ·subst h1;rw[←hy.out];exact he.out),aj hx cA⟩
    case measure=>simp[intOf];omega
  ·have en:¬(k:Int) < (l.length:Int):=by omega
   obtain rfl:k=l.length:=by omega
   go_wp2_with fail
   go_ret
   exact⟨ce (by rw[hr.out];exact(Ca fun j hj=>bP.out j hj hj).symm),aj (aw _ _) hx⟩
theorem En {A:lU}(v:Pfx)(l:List Pfx)(ao:Option Addr)(cap:Nat)(w:World)(h:Sl A w 2 db ao cap l):
 Calls prog 323 #[.slice ao l.length cap,.agg #[.int .i64 v.at_,.int .i64 v.len]] w fun e w'=>e= .returned (.bool (l.contains v))∧dw w w':=by
 have hc:=fun W (h:Sl A W 2 db ao cap l)=>NN v l ao cap W h;have ha:=FZ (fun x=>decide (v=x)) l;have hb:l.contains v=l.any (fun x=>decide (v=x)):=by
  rw[Yi];simp
 rw[←hb]at ha;obtain⟨r,hr⟩:∃r,r=nr (fun x=>decide (v=x)) l:=⟨_,rfl⟩;rw[←hr]at ha;simp only[←hr]at hc;rw[←ha];clear hr ha hb;replace hc:=Xj hc;go_enter func323,ntmps323
 go_wp2_with fail
 refine(hc.out _ (h.ext (aw _ _))).mono ?_;rintro e w1 ⟨rfl,nj⟩;go_wp2_with fail
 go_ret
 exact⟨rfl,aj (aw _ _) nj⟩
end
structure EX (lo hi:Nat)(w w':World):Prop where
 os:w'.os=w.os
 tape:w'.tape=w.tape
 output:w'.output=w.output
 size:w.heap.size≤w'.heap.size
 block:∀b,b < w.heap.size→(b < lo∨hi≤b)→w'.heap[b]? =w.heap[b]?
 there:∀b o,b < w.heap.size→(w.cell? ⟨b,o,none⟩).isSome=true→(w'.cell? ⟨b,o,none⟩).isSome=true
 free:∀b o,b < w.heap.size→w'.frozen? ⟨b,o,none⟩=w.frozen? ⟨b,o,none⟩
theorem EX.refl {lo hi:Nat}(w:World):EX lo hi w w:=⟨rfl,rfl,rfl,XB _,fun _ _ _=>rfl,fun _ _ _ h=>h,fun _ _ _=>rfl⟩
theorem EX.trans {lo hi:Nat}{a b c:World}(h:EX lo hi a b)(k:EX lo hi b c):EX lo hi a c:=
 ⟨k.os.trans h.os,k.tape.trans h.tape,k.output.trans h.output,Yy h.size k.size,fun i hi hx=>(k.block i (Yx hi h.size) hx).trans (h.block i hi hx),
  fun i o hi hs=>k.there i o (Yx hi h.size) (h.there i o hi hs),fun i o hi=>(k.free i o (Yx hi h.size)).trans (h.free i o hi)⟩
theorem EX.of {lo hi:Nat}{w w':World}(h:dw w w'):EX lo hi w w':=
 ⟨h.os,h.tape,h.output,h.size,fun b hb _=>h.block b hb,fun b o hb hs=>by rw[(aJ h).1 b o hb];exact hs,fun b o hb=>(aJ h).2 b o hb⟩
theorem EX.mono {lo hi lo' hi':Nat}{w w':World}(h1:lo≤lo')(h2:hi'≤hi)(h:EX lo' hi' w w'):EX lo hi w w':=
 ⟨h.os,h.tape,h.output,h.size,fun b hb hx=>h.block b hb (by omega),h.there,h.free⟩
theorem EX.cell {lo hi:Nat}{w w':World}(h:EX lo hi w w'){b o:Nat}(hb:b < w.heap.size)(hx:b < lo∨hi≤b):w'.cell? ⟨b,o,none⟩=w.cell? ⟨b,o,none⟩:=
 Zl (w:=w) (h.block b hb hx)
theorem EX.setCell {lo hi:Nat}{w w':World}(h:EX lo hi w w'){b o:Nat}(h1:lo≤b)(h2:b < hi)(v:Value):EX lo hi w (w'.setCell ⟨b,o,none⟩ v):=by
 refine⟨h.os,h.tape,h.output,by rw[aa];exact h.size,fun i hi hx=>(lV v (by show b≠i;omega)).trans (h.block i hi hx),fun i j hi hs=>?_,fun i j hi=>?_⟩
 ·have h3:=h.there i j hi hs;obtain⟨u,hu⟩:=Zf.1 h3;obtain⟨u',hu'⟩:=cell?_setCell_some (w:=w') (p:=⟨b,o,none⟩) (x:=v) (q:=⟨i,j,none⟩) (v:=u) hu;rw[hu'];rfl
 ·rw[World.frozen?_setCell];exact h.free i j hi
theorem EX.drew {lo hi:Nat}{w w':World}(h:EX lo hi w w'):EX lo hi w w'.drew:=h.trans (EX.of ((Below.refl _ _).drew))
theorem EX.bel {lo hi B:Nat}{a w w':World}(h:Bel B a w)(hx:EX lo hi w w')(hB:B≤lo):Bel B a w':=
 ⟨h.bel.trans ⟨hx.os,hx.tape,hx.output,hx.size,fun k hk=>hx.block k (Yx hk h.le) (.inl (Yx hk hB))⟩,Yy h.le hx.size⟩
theorem EX.some {lo hi:Nat}{w w':World}(h:EX lo hi w w'){b o:Nat}{v:Value}(hc:w.cell? ⟨b,o,none⟩=some v):∃u,w'.cell? ⟨b,o,none⟩=some u:=by
 have:=h.there b o (dC hc) (by rw[hc];rfl);exact Zf.1 this
theorem Di {lo hi:Nat}{w w':World}(h:EX lo hi w w')(hl:lo≤w.heap.size):∀b o,b < lo→w'.cell? ⟨b,o,none⟩=w.cell? ⟨b,o,none⟩:=fun b o hb=>h.cell (by omega) (.inl hb)
theorem EX.hi {lo hi:Nat}{w w':World}(h:EX lo hi w w'):∀b o,hi≤b→b < w.heap.size→w'.cell? ⟨b,o,none⟩=w.cell? ⟨b,o,none⟩:=fun b o hb h2=>h.cell h2 (.inr hb)
section
variable {P:Program}{ops:Array Oper}{Q:Exit→Act→World→Prop}
def GX (P:Program)(ops:Array Oper)(Q:Exit→Act→World→Prop):Nat→Array Bool→Act→Nat→Nat→World→Prop
 |0,listed,a,lo,hi,W=>Region.ready .any ops listed=[]∧∀w,EX lo hi W w→Q .normal a w
 |fuel+1,listed,a,lo,hi,W=>∀w,EX lo hi W w→(Region.ready .any ops listed=[]→Q .normal a w)∧
  ∀i∈Region.ready .any ops listed,wpOp P ops Q i (fun a' w'=>EX lo hi w w'∧∃lo' hi',lo≤lo'∧hi'≤hi∧GX P ops Q fuel (listed.setIfInBounds i true) a' lo' hi' w') a w
theorem GX.world:∀{fuel:Nat}{listed:Array Bool}{a:Act}{lo hi:Nat}{W W':World},EX lo hi W W'→GX P ops Q fuel listed a lo hi W→GX P ops Q fuel listed a lo hi W'
 |0,_,_,_,_,_,_,hx,h=>⟨h.1,fun w hw=>h.2 w (hx.trans hw)⟩
 |_+1,_,_,_,_,_,_,hx,h=>fun w hw=>h w (hx.trans hw)
theorem GX.any:∀{fuel:Nat}{listed:Array Bool}{a:Act}{lo hi:Nat}{W:World},GX P ops Q fuel listed a lo hi W→wpAny P .any ops Q fuel listed a W
 |0,_,_,_,_,_,h=>⟨h.1,h.2 _ (EX.refl _)⟩
 |_+1,_,_,_,_,W,h=>⟨(h W (EX.refl _)).1,fun i hi=>wpOp_mono (fun _ _ ⟨_,_,_,_,_,h'⟩=>GX.any h') ((h W (EX.refl _)).2 i hi)⟩
def QX (P:Program)(ops:Array Oper)(lo hi:Nat)(W:World)(o:Oper)(v:Value)(a:Act):Prop:=
 (Region.wanted o (yielded ops a.tmps)=true∧∀w,EX lo hi W w→o.quietAt P a (dw w) w v)∨
 (Region.wanted o (yielded ops a.tmps)=false∧v=undef)
theorem QX.world {lo hi lo' hi':Nat}{W W':World}{o:Oper}{v:Value}{a:Act}(h1:lo≤lo')(h2:hi'≤hi)(hx:EX lo hi W W')(h:QX P ops lo hi W o v a):QX P ops lo' hi' W' o v a:=
 h.imp (fun⟨g1,g2⟩=>⟨g1,fun w hw=>g2 w (hx.trans (hw.mono h1 h2))⟩) id
theorem QX.of_same {lo hi:Nat}{W:World}{o:Oper}{v:Value}{a a':Act}(hy:QX P ops lo hi W o v a)(he:execOp a'.eval o=execOp a.eval o)
 (hw:Region.wanted o (yielded ops a'.tmps)=Region.wanted o (yielded ops a.tmps)):QX P ops lo hi W o v a':=by
 unfold QX Oper.quietAt at*;rw[he,hw];exact hy
theorem QX.wpOp {lo hi:Nat}{W:World}{i:Nat}{o:Oper}{v:Value}{a:Act}(hi':ops[i]? =some o)(hy:QX P ops lo hi W o v a){K:Act→World→Prop}{w:World}(hw:EX lo hi W w)(h:∀w',dw w w'→K (a.put o.dst v) w'):wpOp P ops Q i K a w:=by
 unfold Go.wpOp;simp only[hi'];rcases hy with⟨Az,hv⟩|⟨Az,rfl⟩
 ·simp only[Az,if_true];left;have h3:=hv w hw;unfold Oper.quietAt at h3;unfold Oper.wp;generalize (execOp a.eval o).run P w=r at*;cases r with
  |ok n w'=>
   cases n<;>simp only[Oper.quietUpon]at h3<;>simp only[Oper.upon]
   case value u=>
    obtain⟨e1,e2⟩:=h3;rw[e1,e2];exact h _ (Below.refl _ _)
   case skip=>
    obtain⟨e1,e2⟩:=h3;rw[e1,←e2];exact h _ (Below.refl _ _)
   case enter f args=>
    obtain⟨e1,hc⟩:=h3;rw[e1];exact hc.mono fun e w'' ⟨he,hw''⟩=>by subst he;exact h _ hw''
  |halt x w'=>simp only[Oper.quietUpon]at h3
 ·simp only[Az,YB,if_false];exact h w (Below.refl _ _)
theorem HJ {lo hi:Nat}{W:World}{j:Nat}{oi oj:Oper}{v:Value}(hj:ops[j]? =some oj)(GE:oi.apart ops oj=true)
 (DM:∀cs b,oi.op≠ .select cs b) (PA:∀cs b,oj.op≠ .select cs b)
 (hQ:∀c a w,Q (.panic c) (a.put oi.dst v) w→Q (.panic c) a w) {K:Act→World→Prop}{a:Act}{w:World}
 (hy:QX P ops lo hi W oi v a) (h:wpOp P ops Q j K (a.put oi.dst v) w):
 wpOp P ops Q j (fun a' w'=>QX P ops lo hi W oi v a'∧K (a'.put oi.dst v) w') a w:=by
 obtain⟨h1,h2,h3⟩:=Oper.apart_spec GE;have keep:∀(a:Act),QX P ops lo hi W oi v a→∀u,QX P ops lo hi W oi v (a.put oj.dst u):=fun a hy u=>
  hy.of_same (execOp_put oi DM a oj.dst u h3) (wanted_put oi a oj.dst u h3)
 have keepD:∀d,QX P ops lo hi W oi v {a with defers:=d::a.defers}:=fun d=>hy.of_same rfl rfl;unfold wpOp at*;simp only[hj]at*;rw[wanted_put oj a oi.dst v h1]at h;split
 ·rename_i hw;simp only[hw,if_true]at h;rcases h with h|⟨tU,Dr⟩
  case inr=>exact .inr ⟨by unfold Oper.asks at*;rw[execOp_put oj PA a oi.dst v h1]at tU;exact tU,Dr⟩
  refine .inl ?_;unfold Oper.wp at*;rw[execOp_put oj PA a oi.dst v h1]at h;generalize (execOp a.eval oj).run P w=r at*;cases r with
  |ok n w'=>
   cases n<;>simp only[Oper.upon]at h ⊢
   case value u=>exact⟨keep a hy u,by rw[←Act.put_comm a v u h2];exact h⟩
   case skip=>exact⟨keep a hy _,by rw[←Act.put_comm a v undef h2];exact h⟩
   case defer d=>
    refine⟨keep _ (keepD d) _,?_⟩;rw[←Act.put_comm _ v undef h2,←Act.put_defers];exact h
   case enter f args=>
    refine Calls.mono h fun e w'' he=>?_;cases e with
    |returned u=>exact⟨keep a hy u,by rw[←Act.put_comm a v u h2];exact he⟩
    |panicked c=>exact hQ _ _ _ he
    |outgrown=>exact he
   case row row args=>exact Rows.mono h fun u w'' he=>⟨keep a hy u,by rw[←Act.put_comm a v u h2];exact he⟩
  |halt x w'=>
   cases x<;>simp only[Oper.upon]at h ⊢
   case panic u=>exact hQ _ _ _ h
 ·rename_i hw;simp only[hw]at h;exact⟨keep a hy _,by rw[←Act.put_comm a v undef h2];exact h⟩
theorem Kp {i:Nat}{oi:Oper}{v:Value}(Dx:ops[i]? =some oi)(Ds:∀(j:Nat) (o:Oper) cs b,ops[j]? =some o→o.op≠ .select cs b)
 (hQ:∀c a w,Q (.panic c) (a.put oi.dst v) w→Q (.panic c) a w):
 ∀(fuel:Nat) (listed:Array Bool) (a:Act) (lo hi:Nat) (W:World),
  (∀j oj,ops[j]? =some oj→j≠i→listed.getD j true=false→(∀e∈oj.after,Region.binds .any e=true→e.on≠i)→oi.apart ops oj=true)→
  i∈Region.ready .any ops listed→QX P ops lo hi W oi v a→
  GX P ops Q fuel (listed.setIfInBounds i true) (a.put oi.dst v) lo hi W→GX P ops Q (fuel+1) listed a lo hi W:=by
 intro fuel;induction fuel with
 |zero=>
  intro listed a lo hi W _ hr hy H w hw;refine⟨fun h=>(by rw[h]at hr;cases hr),fun j hj=>?_⟩;by_cases jW:j=i
  ·subst jW;exact hy.wpOp Dx hw fun w' hw'=>⟨EX.of hw',lo,hi,XB _,XB _,H.world (hw.trans (EX.of hw'))⟩
  ·have:=ready_mono hj jW;rw[H.1]at this;cases this
 |succ fuel ih=>
  intro listed a lo hi W tV hr hy H w hw;refine⟨fun h=>(by rw[h]at hr;cases hr),fun j hj=>?_⟩;by_cases jW:j=i
  ·subst jW;exact hy.wpOp Dx hw fun w' hw'=>⟨EX.of hw',lo,hi,XB _,XB _,H.world (hw.trans (EX.of hw'))⟩
  ·have h1:=(H w hw).2 j (ready_mono hj jW);obtain⟨Dt,oj,Mb,bP⟩:=mem_ready.1 hj;have Mc:∀e∈oj.after,Region.binds .any e=true→e.on≠i:=fun e he hb heq=>by
    have h1:=bP e he hb;have h0:=(mem_ready.1 hr).1;rw[heq]at h1;rcases XP i listed.size with h'|h'
    ·simp[h']at h0 h1;rw[h0]at h1;cases h1
    ·simp[YM h']at h1
   have h2:=HJ Mb (tV j oj Mb jW Dt Mc) (fun cs b=>Ds i oi cs b Dx) (fun cs b=>Ds j oj cs b Mb) hQ (hy.world (XB _) (XB _) hw) h1;have wN:∀k ok,ops[k]? =some ok→k≠i→(listed.setIfInBounds j true).getD k true=false→
    (∀e∈ok.after,Region.binds .any e=true→e.on≠i)→oi.apart ops ok=true:=fun k ok hk Md PB cf=>by
    refine tV k ok hk Md ?_ cf;by_cases AA:j=k
    ·subst AA;exact Dt
    ·rw[getD_set_ne true AA]at PB;exact PB
   refine wpOp_mono (fun a' w' ⟨h3,h4,lo',hi',h5,h6,h7⟩=>⟨h4,lo',hi',h5,h6,ih (listed.setIfInBounds j true) a' lo' hi' w' wN (ready_mono hr (Ne.symm jW)) (h3.world h5 h6 h4) ?_⟩) h2;rw[Array.setIfInBounds_comm _ _ jW];exact h7
def jL (P:Program)(ops:Array Oper)(Q:Exit→Act→World→Prop):List Oper→Nat→Array Bool→Act→Nat→Nat→World→Prop
 |[],_,_,a,lo,hi,W=>∀w,EX lo hi W w→Q .normal a w
 |o::rest,k,listed,a,lo,hi,W=>
  (∃v,QX P ops lo hi W o v a∧jL P ops Q rest (k+1) (listed.setIfInBounds k true) (a.put o.dst v) lo hi W)∨
  (Region.ready .any ops listed=[k]∧Region.wanted o (yielded ops a.tmps)=true∧∀w,EX lo hi W w→o.wp P a w (fun a' w'=>EX lo hi w w'∧∃lo' hi',lo≤lo'∧hi'≤hi∧jL P ops Q rest (k+1) (listed.setIfInBounds k true) a' lo' hi' w') Q)
theorem sD (hs:Region.noSelect ops=true)(hQ:∀c a d v w,Q (.panic c) (a.put d v) w→Q (.panic c) a w):∀(l:List Oper) (k:Nat) (listed:Array Bool) (a:Act) (lo hi:Nat) (W:World),(∀j,l[j]? =ops[k+j]?)→
 Region.lexFrom .any ops l.length k listed=true→jL P ops Q l k listed a lo hi W→GX P ops Q l.length listed a lo hi W
 |[],_,_,_,_,_,_,_,hB,h=>⟨by simpa[Region.lexFrom]using hB,h⟩
 |o::l,k,listed,a,lo,hi,W,hl,hB,h=>by
  have h0:ops[k]? =some o:=by simpa using (hl 0).symm
  simp only[XA,Region.lexFrom,Xy]at hB;obtain⟨⟨hr,hf⟩,hB'⟩:=hB;have hl':∀j,l[j]? =ops[k+1+j]? :=fun j=>by have:=hl (j+1);simpa[ZF,Nat.add_comm 1 j]using this
  rcases h with⟨v,hy,hK⟩|⟨eP,Az,hK⟩
  ·exact Kp h0 (Region.noSelect_spec hs) (fun c a w=>hQ c a _ _ w) l.length listed a lo hi W (Region.free_spec h0 hf) (by simpa using hr) hy (sD hs hQ l (k+1) _ _ _ _ _ hl' hB' hK)
  ·intro w hw;refine⟨fun h=>by rw[eP]at h;simp at h,fun i hi'=>?_⟩;rw[eP]at hi';obtain rfl:i=k:=by simpa using hi'
   unfold wpOp;simp only[h0,Az,if_true];left;exact Oper.wp_mono (fun a' w' ⟨h1,lo',hi',h2,h3,h4⟩=>⟨h1,lo',hi',h2,h3,sD hs hQ l (i+1) _ _ _ _ _ hl' hB' h4⟩) (hK w hw)
theorem Eo {id:Nat}{a:Act}{w:World}{l:List Oper}(lo hi:Nat)(hm:P.follows .mixedOrders=true)(hB:Region.lexB .any l.toArray=true)(hQ:∀c a d v w,Q (.panic c) (a.put d v) w→Q (.panic c) a w)
 (h:jL P l.toArray Q l 0 (Y5 l.length false) a lo hi w):(Code.region id l.toArray true).wp P Q a w:=by
 simp only[Region.lexB,Xy]at hB;refine wp_region_any hm ?_;have h2:=sD hB.1 hQ l 0 (Y5 l.length false) a lo hi w (by simp) (by simpa using hB.2) h;have h3:=(h2.world (EX.of ((Below.refl _ _).drew:dw w w.drew))).any;simpa using h3
section
variable {o:Oper}{rest:List Oper}{k lo hi:Nat}{listed:Array Bool}{a:Act}{W:World}
theorem NO (h:∀w,EX lo hi W w→Q .normal a w):jL P ops Q [] k listed a lo hi W:=h
theorem vE (hw:Region.wanted o (yielded ops a.tmps)=false)(hn:jL P ops Q rest (k+1) (listed.setIfInBounds k true) (a.put o.dst undef) lo hi W):jL P ops Q (o::rest) k listed a lo hi W:=
 .inl ⟨undef,.inr ⟨hw,rfl⟩,hn⟩
theorem vF {j d:Nat}{v:Value}(hg:o.guard=some (j,true))(hd:(ops[j]?).bind (·.dst)=some d)(hv:a.tmps.toList[d]? =some v)(hb:v= .bool false)(hn:jL P ops Q rest (k+1) (listed.setIfInBounds k true) (a.put o.dst undef) lo hi W):jL P ops Q (o::rest) k listed a lo hi W:=
 vE (by simp[Region.wanted,hg,gq hd hv hb]) hn
theorem vG {j d:Nat}{v:Value}(hg:o.guard=some (j,false))(hd:(ops[j]?).bind (·.dst)=some d)(hv:a.tmps.toList[d]? =some v)(hb:v= .bool true)(hn:jL P ops Q rest (k+1) (listed.setIfInBounds k true) (a.put o.dst undef) lo hi W):jL P ops Q (o::rest) k listed a lo hi W:=
 vE (by simp[Region.wanted,hg,gq hd hv hb]) hn
theorem vH {j d:Nat}{v:Value}{b:Bool}(hg:o.guard=some (j,b))(hd:(ops[j]?).bind (·.dst)=some d)(hv:a.tmps.toList[d]? =some v)(hb:v=undef)(hn:jL P ops Q rest (k+1) (listed.setIfInBounds k true) (a.put o.dst undef) lo hi W):jL P ops Q (o::rest) k listed a lo hi W:=
 vE (by simp[Region.wanted,hg,mO hd hv hb]) hn
theorem Cc {v:Value}(hw:Region.wanted o (yielded ops a.tmps)=true)(h:∀w,EX lo hi W w→∀R:Value→Prop,R v→RD P w w R ((execOp a.eval o).run P w))
 (hn:jL P ops Q rest (k+1) (listed.setIfInBounds k true) (a.put o.dst v) lo hi W):jL P ops Q (o::rest) k listed a lo hi W:=
 .inl ⟨v,.inl ⟨hw,fun w hw=>sd (h w hw)⟩,hn⟩
theorem yE (hr:Region.ready .any ops listed=[k])(hw:Region.wanted o (yielded ops a.tmps)=true)
 (h:∀w,EX lo hi W w→∀K:Act→World→Prop,(∀a' w' lo' hi',lo≤lo'→hi'≤hi→EX lo hi w w'→jL P ops Q rest (k+1) (listed.setIfInBounds k true) a' lo' hi' w'→K a' w')→o.wp P a w K Q):jL P ops Q (o::rest) k listed a lo hi W:=
 .inr ⟨hr,hw,fun w hw=>h w hw _ fun _ _ lo' hi' g1 g2 h1 h2=>⟨h1,lo',hi',g1,g2,h2⟩⟩
end
end
section
open Go.Proofs
theorem Qe (a l:Int)(h:bE a l=true)(hl:l < 16):bits .or .i64 a (D8 (l+1)+1)=a+eD (l+1):=by
 obtain⟨g1,g2,g3,g4,g5⟩:=dK h;obtain⟨n,rfl⟩:=Int.eq_ofNat_of_zero_le g3;have e1:D8 (l+1)+1=((2 ^ (16 - (l+1)).toNat:Nat):Int):=by simp[D8]
 have e2:eD (l+1)=((2 ^ (16 - (l+1)).toNat:Nat):Int):=by simp[eD]
 obtain⟨k,hk⟩:∃k,k=(16 - (l+1)).toNat:=⟨_,rfl⟩;have e3:(16 - l).toNat=k+1:=by omega
 rw[e1,e2,←hk];have UD:k≤15:=by omega
 have hp:2 ^ k≤2 ^ 15:=Nat.pow_le_pow_right (by omega) UD;have g6:n % 2 ^ (k+1)=0:=by
  unfold eD at g5;rw[e3]at g5;exact_mod_cast g5
 have hn:n=2 ^ (k+1)*(n / 2 ^ (k+1)):=by have:=ZN n (2 ^ (k+1));omega
 have S7:n|||2 ^ k=n+2 ^ k:=by
  rw[hn];exact(Nat.two_pow_add_eq_or_of_lt (Nat.pow_lt_pow_right (by omega) (by omega)) _).symm
 show IntKind.i64.wrap ((BitVec.ofInt 64 (n:Int)|||BitVec.ofInt 64 ((2 ^ k:Nat):Int)).toNat:Int)=_;rw[BitVec.toNat_or,kB n (by omega),kB _ (by omega),S7,IntKind.wrap_i64];omega
def yF:Value:= .agg #[.int .i64 0,.int .i64 0]
def oV (a l:Int):Value:=
 if chk a l=0 then (if l=16 then .tuple #[yF,yF,.int .i64 3]else .tuple #[.agg #[.int .i64 a,.int .i64 (l+1)],.agg #[.int .i64 (a+eD (l+1)),.int .i64 (l+1)],.int .i64 0])
 else .tuple #[yF,yF,.int .i64 (chk a l)]
theorem vI (a l:Int)(w:World):
 Calls prog 322 #[.agg #[.int .i64 a,.int .i64 l]] w fun e w'=>e= .returned (oV a l)∧dw w w':=by
 have hc:=oT a l;unfold oV yF;by_cases h0:chk a l=0
 ·have hR:bE a l=true:=by simp[bE,h0]
  obtain⟨g1,g2,g3,g4,g5⟩:=dK hR;rw[if_pos h0];rw[h0]at hc;replace hc:=Xj hc;clear h0;by_cases zi:l=16
  ·rw[if_pos zi];have UE:(l==16)=true:=by simp[zi]
   clear zi;go_enter func322,ntmps322
   go_wp2_with fail
   refine(hc.out _).mono ?_;rintro e w1 ⟨rfl,cj⟩;obtain⟨ck,cq⟩:=aJ cj;have ct:=bq cj;(try simp only[Xr,aa,Xw,Xs]at ck cq ct)
   go_wp2_with fail
   refine bodyPost_ret ?_ rfl ⟨rfl,Bel.bel (B:=_) ?_⟩
   ·simp[results,results322,go_sem,ck]
   ·(repeat(first|with_reducible assumption|with_reducible exact Bel.refl _|with_reducible refine Bel.alloc ?_ _|with_reducible refine Bel.drewN ?_ _|with_reducible refine Bel.drew ?_|(with_reducible refine Bel.setCell0 ?_ ?_ _;rotate_left;(first|omega|(simp;done)|(simp;omega)))|(with_reducible refine Bel.setCell ?_ (p:=_) ?_ _;rotate_left;(first|(simp;done)|omega|(simp;omega)))|refine Bel.call ?_ (by assumption)|(refine EX.bel ?_ (by assumption) ?_;rotate_left;(first|omega|(simp;omega)))))
  ·rw[if_neg zi];have UE:(l==16)=false:=by simp[zi]
   have S7:=Qe a l hR (by omega);obtain⟨z1,z2⟩:=pS (l+1) (by omega);have cM:IntKind.i64.wrap (D8 (l+1)+1)=D8 (l+1)+1:=IntWalk.i64_in _ (by omega);have UF:=fun W=>nZ (l+1) W (by omega) (by omega);replace UF:=Xj UF;clear zi;go_enter func322,ntmps322
   go_wp2_with fail
   refine(hc.out _).mono ?_;rintro e w1 ⟨rfl,cj⟩;obtain⟨ck,cq⟩:=aJ cj;have ct:=bq cj;(try simp only[Xr,aa,Xw,Xs]at ck cq ct)
   have l1:w.heap.size < w1.heap.size:=by omega
   have l2:w.heap.size+1 < w1.heap.size:=by omega
   have l3:w.heap.size+1+1 < w1.heap.size:=by omega
   go_wp2_with fail
   refine Eo (w.heap.size+1) (w.heap.size+3) (by kernel_rfl) (by kernel_rfl) (fun _ _ d _ _ h=>by cases d<;>exact h) ?_;repeat(first|((first|refine vF rfl rfl rfl (by with_reducible rfl) ?_|refine vG rfl rfl rfl (by with_reducible rfl) ?_|refine vH rfl rfl rfl (by with_reducible rfl) ?_);simp only[Act.put,Xq,Xv,Xx])|(apply Cc;(first|exact bx rfl|exact bD rfl rfl rfl (by with_reducible rfl));intro wq cL R hR;((have ef:=Di cL (by first|omega|(simp;omega)|(simp;done));have UG:=EX.hi cL;(try simp only[Xr,aa,Xw,Xs]at ef UG));go_simp;first|exact hR|((go_at_call 49;exact pV (UF.out _) hR)));simp only[Act.put,Xq,Xv,Xx]))
   refine yE (by kernel_rfl) (by first|exact bx rfl|exact bD rfl rfl rfl (by with_reducible rfl)) (fun w2 cA K hK=>?_);have dO:=cA.size;have UH:=Di cA (by first|omega|(simp;omega)|(simp;done));have UI:=EX.hi cA;have dA:=cA.free;(try simp only[Xr,aa,Xw,Xs]at dO UH UI dA)
   (try have l0w2:w.heap.size < w2.heap.size:=by omega)
   (try have l1w2:w.heap.size+1 < w2.heap.size:=by omega)
   (try have l2w2:w.heap.size+1+1 < w2.heap.size:=by omega)
   (try have l3w2:w.heap.size+1+1+1 < w2.heap.size:=by omega)
   obtain⟨u0w2,S8⟩:=cA.some (b:=w.heap.size+1) (o:=0) (v:=_) (by go_simp;rfl);obtain⟨u1w2,S9⟩:=cA.some (b:=w.heap.size+1) (o:=1) (v:=_) (by go_simp;rfl);go_simp
   refine hK _ _ (w.heap.size+2) (w.heap.size+3) (by omega) (by omega) (by repeat(first|exact EX.refl _|refine EX.setCell ?_ (by omega) (by omega) _)) ?_;clear hK K;obtain⟨v0,I3⟩:=cA.some (b:=w.heap.size+1+1) (o:=0) (v:=_) (by go_simp;rfl);obtain⟨v1,AN⟩:=cA.some (b:=w.heap.size+1+1) (o:=1) (v:=_) (by go_simp;rfl);refine yE (by kernel_rfl) (by first|exact bx rfl|exact bD rfl rfl rfl (by with_reducible rfl)) (fun w3 lT K hK=>?_);have Fh:=lT.size;have Ta:=Di lT (by first|omega|(simp;omega)|(simp;done));have UJ:=EX.hi lT;have Dy:=lT.free;(try simp only[Xr,aa,Xw,Xs]at Fh Ta UJ Dy)
   (try have l0w3:w.heap.size < w3.heap.size:=by omega)
   (try have l1w3:w.heap.size+1 < w3.heap.size:=by omega)
   (try have l2w3:w.heap.size+1+1 < w3.heap.size:=by omega)
   (try have l3w3:w.heap.size+1+1+1 < w3.heap.size:=by omega)
   obtain⟨u0w3,Tb⟩:=lT.some (b:=w.heap.size+1+1) (o:=0) (v:=_) (by go_simp;rfl);obtain⟨u1w3,Tc⟩:=lT.some (b:=w.heap.size+1+1) (o:=1) (v:=_) (by go_simp;rfl);go_simp
   refine hK _ _ (w.heap.size+3) (w.heap.size+3) (by omega) (by omega) (by repeat(first|exact EX.refl _|refine EX.setCell ?_ (by omega) (by omega) _)) ?_;clear hK K;repeat(first|((first|refine vF rfl rfl rfl (by with_reducible rfl) ?_|refine vG rfl rfl rfl (by with_reducible rfl) ?_|refine vH rfl rfl rfl (by with_reducible rfl) ?_);simp only[Act.put,Xq,Xv,Xx])|(apply Cc;(first|exact bx rfl|exact bD rfl rfl rfl (by with_reducible rfl));intro wq cL R hR;((have ef:=Di cL (by first|omega|(simp;omega)|(simp;done));have UG:=EX.hi cL;(try simp only[Xr,aa,Xw,Xs]at ef UG));go_simp;first|exact hR|(fail));simp only[Act.put,Xq,Xv,Xx]))
   refine NO ?_;intro w4 AG;have Ml:=AG.size;have Td:=Di AG (by first|omega|(simp;omega)|(simp;done));have UK:=EX.hi AG;have Mm:=AG.free;(try simp only[Xr,aa,Xw,Xs]at Ml Td UK Mm)
   (try have l0w4:w.heap.size < w4.heap.size:=by omega)
   (try have l1w4:w.heap.size+1 < w4.heap.size:=by omega)
   (try have l2w4:w.heap.size+1+1 < w4.heap.size:=by omega)
   (try have l3w4:w.heap.size+1+1+1 < w4.heap.size:=by omega)
   go_wp2_with fail
   refine bodyPost_ret ?_ rfl ⟨rfl,Bel.bel (B:=_) ?_⟩
   ·simp[results,results322,go_sem,Td,Ta,S8,S9,Tb,Tc]
   ·(repeat(first|with_reducible assumption|with_reducible exact Bel.refl _|with_reducible refine Bel.alloc ?_ _|with_reducible refine Bel.drewN ?_ _|with_reducible refine Bel.drew ?_|(with_reducible refine Bel.setCell0 ?_ ?_ _;rotate_left;(first|omega|(simp;done)|(simp;omega)))|(with_reducible refine Bel.setCell ?_ (p:=_) ?_ _;rotate_left;(first|(simp;done)|omega|(simp;omega)))|refine Bel.call ?_ (by assumption)|(refine EX.bel ?_ (by assumption) ?_;rotate_left;(first|omega|(simp;omega)))))
 ·rw[if_neg h0];replace h0:(chk a l !=0)=true:=by simpa using h0
  obtain⟨r,hr⟩:∃r,r=chk a l:=⟨_,rfl⟩;rw[←hr]at hc h0 ⊢;clear hr;replace hc:=Xj hc;go_enter func322,ntmps322
  go_wp2_with fail
  refine(hc.out _).mono ?_;rintro e w1 ⟨rfl,cj⟩;obtain⟨ck,cq⟩:=aJ cj;have ct:=bq cj;(try simp only[Xr,aa,Xw,Xs]at ck cq ct)
  go_wp2_with fail
  refine bodyPost_ret ?_ rfl ⟨rfl,Bel.bel (B:=_) ?_⟩
  ·simp[results,results322,go_sem,ck]
  ·(repeat(first|with_reducible assumption|with_reducible exact Bel.refl _|with_reducible refine Bel.alloc ?_ _|with_reducible refine Bel.drewN ?_ _|with_reducible refine Bel.drew ?_|(with_reducible refine Bel.setCell0 ?_ ?_ _;rotate_left;(first|omega|(simp;done)|(simp;omega)))|(with_reducible refine Bel.setCell ?_ (p:=_) ?_ _;rotate_left;(first|(simp;done)|omega|(simp;omega)))|refine Bel.call ?_ (by assumption)|(refine EX.bel ?_ (by assumption) ?_;rotate_left;(first|omega|(simp;omega)))))
end
section
open Go.Proofs
theorem Ep (b:Nat)(p q:Pfx)(w:World)(h0:w.cell? ⟨b,0,none⟩=some (.int .i64 p.at_))(h1:w.cell? ⟨b,1,none⟩=some (.int .i64 p.len)):
 Calls prog 333 #[.agg #[.int .i64 q.at_,.int .i64 q.len],.pointer (some ⟨b,0,none⟩)] w fun e w'=>e= .returned (.bool (p.meets q))∧dw w w':=by
 have hlt:=dC h0;have hm:=yx p.at_ p.len q.at_ q.len;obtain⟨r,hr⟩:∃r,r=p.meets q:=⟨_,rfl⟩;unfold Pfx.meets at hr;rw[←hr]at hm;unfold Pfx.meets;rw[←hr];clear hr;replace hm:=Xj hm;go_enter func333,ntmps333
 go_wp2_with fail
 refine(hm.out _).mono ?_;rintro e w1 ⟨rfl,cj⟩;obtain⟨ck,cq⟩:=aJ cj;have ct:=bq cj;(try simp only[Xr,aa,Xw,Xs]at ck cq ct)
 go_wp2_with fail
 go_ret
 refine⟨rfl,Bel.bel (B:=_) ?_⟩;(repeat(first|with_reducible assumption|with_reducible exact Bel.refl _|with_reducible refine Bel.alloc ?_ _|with_reducible refine Bel.drewN ?_ _|with_reducible refine Bel.drew ?_|(with_reducible refine Bel.setCell0 ?_ ?_ _;rotate_left;(first|omega|(simp;done)|(simp;omega)))|(with_reducible refine Bel.setCell ?_ (p:=_) ?_ _;rotate_left;(first|(simp;done)|omega|(simp;omega)))|refine Bel.call ?_ (by assumption)|(refine EX.bel ?_ (by assumption) ?_;rotate_left;(first|omega|(simp;omega)))))
theorem Er (b:Nat)(p:Pfx)(us:List Pfx)(w:World)(h0:w.cell? ⟨b,0,none⟩=some (.int .i64 p.at_))(h1:w.cell? ⟨b,1,none⟩=some (.int .i64 p.len)):
 Ko prog 333 #[.pointer (some ⟨b,0,none⟩)] db (fun q=>p.meets q) us w:=by
 intro W hW x _ cs hR;unfold db at hR;subst hR;exact Ep b p x W (bV hW h0) (bV hW h1)
theorem kV {A:lU}(us:List Pfx)(uo:Option Addr)(ucap:Nat)(p:Pfx)(w:World)(h:Sl A w 2 db uo ucap us):
 Calls prog 321 #[.slice uo us.length ucap,.agg #[.int .i64 p.at_,.int .i64 p.len]] w fun e w'=>e= .returned (.bool (us.any fun q=>p.meets q))∧dw w w':=by
 have hc:=fun W (hs:Sl A W 2 db uo ucap us) h0 h1=>vD 333 #[.pointer (some ⟨w.heap.size,0,none⟩)] (enters_of func333 (by kernel_rfl) rfl) (fun q=>p.meets q) us uo ucap W hs (Er w.heap.size p us W h0 h1);obtain⟨r,hr⟩:∃r,r=us.any fun q=>p.meets q:=⟨_,rfl⟩;rw[←hr]at hc ⊢;clear hr;replace hc:=Xj hc;go_enter func321,ntmps321
 go_wp2_with fail
 refine(hc.out _ (h.ext (aw _ _)) (by simp) (by simp)).mono ?_;rintro e w1 ⟨rfl,nj⟩;go_wp2_with fail
 go_ret
 exact⟨rfl,aj (aw _ _) nj⟩
end
section
open Go.Proofs Go.Shelf
attribute [local go_sem] Oper.semAt_some
def dk (us:List Pfx):Nat→Pfx→List Pfx
 |0,p=>if us.any p.meets then []else [p]
 |n+1,p=>if us.any p.meets then (if us.contains p then []else dk us n p.low++dk us n p.high)else [p]
theorem jn {p:Pfx}(h:p.right=true)(hl:p.len < 16):p.low.right=true:=by
 obtain⟨g1,g2,g3,g4,g5⟩:=dK h;refine od (by simp[Pfx.low];omega) (by simp[Pfx.low];omega) g3 g4 ?_;show p.at_ % eD (p.len+1)=0;rw[qT g1 hl]at g5;exact ZB (C' ⟨2,by omega⟩ (YL g5))
theorem ij {p:Pfx}(h:p.right=true)(hl:p.len < 16):p.high.right=true:=by
 obtain⟨g1,g2,g3,g4,g5⟩:=dK h;have hf:=yy h;have hh:=qT g1 hl;have hs:=eX (n:=p.len+1) (by omega);refine od (by simp[Pfx.high];omega) (by simp[Pfx.high];omega) (by simp[Pfx.high];omega) (by simp[Pfx.high];omega) ?_;show (p.at_+eD (p.len+1)) % eD (p.len+1)=0;rw[Int.add_emod_right];rw[hh]at g5;exact ZB (C' ⟨2,by omega⟩ (YL g5))
structure KP (own:World→Nat→Prop)(W W':World):Prop where
 size:W.heap.size≤W'.heap.size
 cells:∀b c t f,¬own W b→W.heap[b]? =some (.cells c t f)→W'.heap[b]? =some (.cells c t f)
 own:∀b,b < W.heap.size→own W' b→own W b
theorem oq {w:World}{b:Nat}{o:Obj}(h:w.heap[b]? =some o):b < w.heap.size:=by
 rcases XP b w.heap.size with h'|h'
 ·exact h'
 ·simp[YM h']at h
theorem KP.trans {own:World→Nat→Prop}{a b c:World}(h:KP own a b)(k:KP own b c):KP own a c:=
 ⟨Yy h.size k.size,fun i x t f hn hc=>k.cells i x t f (fun ho=>hn (h.own i (oq hc) ho)) (h.cells i x t f hn hc),fun i hi ho=>h.own i hi (k.own i (Yx hi h.size) ho)⟩
theorem KP.of {own:World→Nat→Prop}{a b:World}(h:dw a b)(ho:∀i,own b i→own a i):KP own a b:=
 ⟨h.size,fun i x t f _ hc=>xS h hc,fun i _ hi=>ho i hi⟩
theorem KP.cell {own:World→Nat→Prop}{a b:World}(h:KP own a b){i o:Nat}{v:Value}(hn:¬own a i)(hc:a.cell? ⟨i,o,none⟩=some v):b.cell? ⟨i,o,none⟩=some v:=by
 have hlt:=dC hc;obtain⟨x,hx⟩:∃x,a.heap[i]? =some x:=⟨_,YP hlt⟩;cases x with
 |cells c t f=>
  have:=h.cells i c t f hn hx;simp only[YS,hx,this]at hc ⊢;exact hc
 |_=>simp[YS,hx]at hc
theorem Sl.kp {α:Type}{own:World→Nat→Prop}{n₀:Nat}{w w':World}{k:Nat}{R:List Value→α→Prop}{ao:Option Addr}{cap:Nat}{l:List α}(h:Sl (fun b=>b < n₀) w k R ao cap l)(ho:∀b,own w b→n₀≤b)(hb:KP own w w'):Sl (fun b=>b < n₀) w' k R ao cap l:=by
 refine⟨h.cap_le,h.cap_max,fun i hi=>?_⟩;obtain⟨b,off,cs,h1,h2,h3,h4,h5⟩:=h.elem i hi;exact⟨b,off,cs,h1,h2,h3,h4,fun j hj=>hb.cell (fun hx=>by have:=ho b hx;omega) (h5 j hj)⟩
theorem zX {F:Fence}(hd:F.depth=none)(k:Nat):F.room k:=fun d h=>by rw[hd]at h;cases h
theorem RoundIn.anyDepth {F:Fence}(hd:F.depth=none){m m':Nat}{P:Program}{l:Nat}{f:FuncId}{tmps:Array Value}{assign body:Code}{w:World}{R:Ending→World→Prop}
 (h:RoundIn F m P l f tmps assign body w R):RoundIn F m' P l f tmps assign body w R:=⟨h.1,fun c cs _=>h.2 c cs (zX hd _)⟩
theorem YieldAt.anyDepth {F:Fence}(hd:F.depth=none){m:Nat}(m':Nat){P:Program}{l:Nat}{args:Array Value}{W:World}{R:Ending→World→Prop}(h:YieldAt F m P l args W R):YieldAt F m' P l args W R:=by
 obtain⟨fn,tmps,assign,body,hy,hR⟩:=h;exact⟨fn,tmps,assign,body,hy,RoundIn.anyDepth hd hR⟩
def F1 (own:World→Nat→Prop)(J Jx:List Pfx→World→Prop)(pre L:List Pfx)(W:World)(e:Ending)(W':World):Prop:=
 (e= .returned (.bool true)∧J (pre++L) W'∧KP own W W')∨(e= .returned (.bool false)∧∃q,q <+:L∧Jx (pre++q) W')
structure LoopOK (own:World→Nat→Prop)(n₀ N l:Nat)(J Jx:List Pfx→World→Prop):Prop where
 ext:∀s A B,J s A→dw A B→J s B
 extx:∀s A B,Jx s A→dw A B→Jx s B
 own1:∀s A b,J s A→own A b→n₀≤b∧b < A.heap.size
 own2:∀s A B b,J s A→dw A B→own B b→own A b
 round:∀m pre (x:Pfx) W,J pre W→pre.length < N→YieldAt Fence.wide m prog l #[x.v] W fun e W'=>
  (e= .returned (.bool true)∧J (pre++[x]) W'∧KP own W W')∨(e= .returned (.bool false)∧Jx (pre++[x]) W')
theorem LoopOK.kp {own:World→Nat→Prop}{n₀ N l:Nat}{J Jx:List Pfx→World→Prop}(hL:LoopOK own n₀ N l J Jx){s:List Pfx}{A B:World}(hj:J s A)(hx:dw A B):KP own A B:=KP.of hx fun b=>hL.own2 s A B b hj hx
section
variable (own:World→Nat→Prop)(l n₀ N:Nat)(us:List Pfx)(uo:Option Addr)(ucap:Nat)(J Jx:List Pfx→World→Prop)(hL:LoopOK own n₀ N l J Jx)
include hL
theorem yG (p:Pfx)(m:Nat)(pre:List Pfx)(W:World)(hM:us.any p.meets=false)(hs:Sl (fun b=>b < n₀) W 2 db uo ucap us)(hj:J pre W)(hN:pre.length+1≤N):
 CallsIn Fence.wide m prog 293 #[p.v,.slice uo us.length ucap,.func (.yield l) #[] #[]] W (F1 own J Jx pre [p] W):=by
 have hm:=fun W' (h:Sl (fun b=>b < n₀) W' 2 db uo ucap us)=>kV us uo ucap p W' h;rw[hM]at hm;replace hm:=Xj hm;clear hM;unfold Pfx.v;refine callsIn_of_wp func293 rfl trivial ?_ rfl;simp only[ntmps293,YH,XA,XZ,XM,D',Zx,Zy,ZS,ZD,Ya,X8];gi_wp2_with fail
 refine⟨trivial,fun h=>(by cases h),?_⟩;refine(callsIn_wide.2 (hm.out _ (hs.ext (aw _ _)))).mono ?_;rintro e w1 ⟨rfl,cj⟩;obtain⟨ck,cq⟩:=aJ cj;have ct:=bq cj;(try simp only[Xr,aa,Xw,Xs]at ck cq ct)
 have nj:=aj (aw _ _) cj;obtain⟨fn,tmps,assign,body,hy,Xa⟩:=hL.round (m - 1) pre p w1 (hL.ext _ _ _ hj nj) (by omega);unfold Pfx.v at hy;have i7:=hL.kp hj nj;gi_wp2_with fail
 refine⟨fun h=>(by cases h),?_⟩;refine Xa.mono ?_;rintro e w2 (⟨rfl,I4,jd⟩|⟨rfl,lL⟩)
 ·gi_wp2_with fail
  go_ret
  exact .inl ⟨rfl,I4,i7.trans jd⟩
 ·gi_wp2_with fail
  go_ret
  exact .inr ⟨rfl,[p],List.prefix_refl _,lL⟩
theorem NP:∀(n:Nat) (p:Pfx) (m:Nat) (pre:List Pfx) (W:World),16 - p.len=(n:Int)→p.right=true→Sl (fun b=>b < n₀) W 2 db uo ucap us→J pre W→pre.length+(dk us n p).length≤N→
 CallsIn Fence.wide m prog 293 #[p.v,.slice uo us.length ucap,.func (.yield l) #[] #[]] W (F1 own J Jx pre (dk us n p) W):=by
 intro n;induction n with
 |zero=>
  intro p m pre W hn hr hs hj hN;cases hM:us.any p.meets
  ·unfold dk at hN ⊢;rw[hM]at hN ⊢;simp only[YB,if_false,XA,XZ]at hN ⊢;exact yG own l n₀ N us uo ucap J Jx hL p m pre W hM hs hj (by omega)
  ·unfold dk;rw[hM,if_pos rfl];have hm:=fun W' (h:Sl (fun b=>b < n₀) W' 2 db uo ucap us)=>kV us uo ucap p W' h;rw[hM]at hm;have hh:=vI p.at_ p.len;have hc:chk p.at_ p.len=0:=by have:=hr;unfold Pfx.right bE at this;simpa using this
   have hl:p.len=16:=by omega
   have hv:oV p.at_ p.len= .tuple #[.agg #[.int .i64 0,.int .i64 0],.agg #[.int .i64 0,.int .i64 0],.int .i64 3]:=by unfold oV yF;rw[if_pos hc,if_pos hl]
   rw[hv]at hh;clear hv hc hM hN hl hn hr;replace hm:=Xj hm;replace hh:=Xj hh;unfold Pfx.v;refine callsIn_of_wp func293 rfl trivial ?_ rfl;simp only[ntmps293,YH,XA,XZ,XM,D',Zx,Zy,ZS,ZD,Ya,X8];gi_wp2_with fail
   refine⟨trivial,fun h=>(by cases h),?_⟩;refine(callsIn_wide.2 (hm.out _ (hs.ext (aw _ _)))).mono ?_;rintro e w1 ⟨rfl,cj⟩;obtain⟨ck,cq⟩:=aJ cj;have ct:=bq cj;(try simp only[Xr,aa,Xw,Xs]at ck cq ct)
   have nj:=aj (aw _ _) cj;have l1:W.heap.size < w1.heap.size:=by omega
   gi_wp2_with fail
   refine⟨trivial,fun h=>(by cases h),?_⟩;refine(callsIn_wide.2 (hh.out _)).mono ?_;rintro e w2 ⟨rfl,cA⟩;obtain⟨dN,dA⟩:=aJ cA;have dO:=bq cA;(try simp only[Xr,aa,Xw,Xs]at dN dA dO)
   have l2:W.heap.size < w2.heap.size:=by omega
   gi_wp2_with fail
   refine⟨trivial,?_⟩;gi_wp2_with fail
   go_ret
   exact .inl ⟨rfl,by rw[Yv];exact hL.ext _ _ _ hj (aj nj (aj cA (aj (aw _ _) (aw _ _)))),hL.kp hj (aj nj (aj cA (aj (aw _ _) (aw _ _))))⟩
 |succ n ih=>
  intro p m pre W hn hr hs hj hN;cases hM:us.any p.meets
  ·unfold dk at hN ⊢;rw[hM]at hN ⊢;simp only[YB,if_false,XA,XZ]at hN ⊢;exact yG own l n₀ N us uo ucap J Jx hL p m pre W hM hs hj (by omega)
  ·have hm:=fun W' (h:Sl (fun b=>b < n₀) W' 2 db uo ucap us)=>kV us uo ucap p W' h;rw[hM]at hm;have hh:=vI p.at_ p.len;have hc:chk p.at_ p.len=0:=by have:=hr;unfold Pfx.right bE at this;simpa using this
   have hl:p.len < 16:=by omega
   have hv:oV p.at_ p.len= .tuple #[.agg #[.int .i64 p.at_,.int .i64 (p.len+1)],.agg #[.int .i64 (p.at_+eD (p.len+1)),.int .i64 (p.len+1)],.int .i64 0]:=by unfold oV;rw[if_pos hc,if_neg (by omega)]
   rw[hv]at hh;have qk:=fun W' (h:Sl (fun b=>b < n₀) W' 2 db uo ucap us)=>En p us uo ucap W' h;unfold dk at hN ⊢;rw[hM,if_pos rfl]at hN ⊢;clear hv hc hM;replace hm:=Xj hm;replace hh:=Xj hh;cases hC:us.contains p
   ·rw[hC]at qk hN;simp only[YB,if_false,XY]at hN ⊢;replace qk:=Xj qk;have ihl:=fun m' pre' W'=>ih p.low m' pre' W' (by simp[Pfx.low];omega) (jn hr hl);have ihr:=fun m' pre' W'=>ih p.high m' pre' W' (by simp[Pfx.high];omega) (ij hr hl);obtain⟨L,V5⟩:∃L,L=dk us n p.low:=⟨_,rfl⟩;obtain⟨M,TG⟩:∃M,M=dk us n p.high:=⟨_,rfl⟩;rw[←V5]at ihl hN ⊢;rw[←TG]at ihr hN ⊢;simp only[Pfx.v,Pfx.low]at ihl;simp only[Pfx.v,Pfx.high]at ihr;replace ihl:=Xj ihl;replace ihr:=Xj ihr;clear ih V5 TG hC hl hn hr;unfold Pfx.v;refine callsIn_of_wp func293 rfl trivial ?_ rfl;simp only[ntmps293,YH,XA,XZ,XM,D',Zx,Zy,ZS,ZD,Ya,X8];gi_wp2_with fail
    refine⟨trivial,fun h=>(by cases h),?_⟩;refine(callsIn_wide.2 (hm.out _ (hs.ext (aw _ _)))).mono ?_;rintro e w1 ⟨rfl,cj⟩;obtain⟨ck,cq⟩:=aJ cj;have ct:=bq cj;(try simp only[Xr,aa,Xw,Xs]at ck cq ct)
    have nj:=aj (aw _ _) cj;have l1:W.heap.size < w1.heap.size:=by omega
    gi_wp2_with fail
    refine⟨trivial,fun h=>(by cases h),?_⟩;refine(callsIn_wide.2 (hh.out _)).mono ?_;rintro e w2 ⟨rfl,cA⟩;obtain⟨dN,dA⟩:=aJ cA;have dO:=bq cA;(try simp only[Xr,aa,Xw,Xs]at dN dA dO)
    have lL:=aj nj cA;have l2:W.heap.size < w2.heap.size:=by omega
    gi_wp2_with fail
    refine⟨trivial,fun h=>(by cases h),?_⟩;refine(callsIn_wide.2 (qk.out _ ((hs.ext lL).ext (aj (aw _ _) (aw _ _))))).mono ?_;rintro e w3 ⟨rfl,lT⟩;obtain⟨xL,Dy⟩:=aJ lT;have Fh:=bq lT;(try simp only[Xr,aa,Xw,Xs]at xL Dy Fh)
    have IP:=aj lL (aj (aj (aw _ _) (aw _ _)) lT);have V6:=hL.ext _ _ _ hj IP;have Xb:=hL.kp hj IP;have l3:w2.heap.size < w3.heap.size:=by omega
    have l4:w2.heap.size+1 < w3.heap.size:=by omega
    have l5:W.heap.size < w3.heap.size:=by omega
    have d0:w3.cell? ⟨w2.heap.size,0,none⟩=some (.int .i64 p.at_):=by rw[xL _ _ (by omega)];go_simp
    have d1:w3.cell? ⟨w2.heap.size,1,none⟩=some (.int .i64 (p.len+1)):=by rw[xL _ _ (by omega)];go_simp
    have e0:w3.cell? ⟨w2.heap.size+1,0,none⟩=some (.int .i64 (p.at_+eD (p.len+1))):=by rw[xL _ _ (by omega)];go_simp
    have e1:w3.cell? ⟨w2.heap.size+1,1,none⟩=some (.int .i64 (p.len+1)):=by rw[xL _ _ (by omega)];go_simp
    have no:¬own w3 (w2.heap.size+1):=fun ho=>by
     have:=(hL.own1 _ _ _ hj (hL.own2 _ _ _ _ hj IP ho)).2;omega
    have V7:=hs.ext IP;clear xL Dy dN dA ck cq;gi_wp2_with fail
    refine⟨trivial,fun h=>(by cases h),?_⟩;refine(ihl.out _ pre _ V7 V6 (by omega)).mono ?_;rintro e w4 (⟨rfl,Xc,TK⟩|⟨rfl,q,hq,Xd⟩)
    ·have TL:=V7.kp (fun b hb=>(hL.own1 _ _ _ V6 hb).1) TK;have e0':=TK.cell no e0;have e1':=TK.cell no e1;clear e0 e1 d0 d1;gi_wp2_with fail
     refine⟨trivial,fun h=>(by cases h),?_⟩;refine(ihr.out _ _ _ TL Xc (by simp;omega)).mono ?_;rintro e w5 (⟨rfl,Xe,Xf⟩|⟨rfl,q,hq,Xg⟩)
     ·gi_wp2_with fail
      go_ret
      exact .inl ⟨rfl,by rw[←X3];exact Xe,Xb.trans (TK.trans Xf)⟩
     ·gi_wp2_with fail
      go_ret
      obtain⟨r,hr⟩:=hq;exact .inr ⟨rfl,L++q,⟨r,by rw[←hr];simp⟩,by rw[←X3];exact Xg⟩
    ·gi_wp2_with fail
     refine⟨trivial,?_⟩;gi_wp2_with fail
     go_ret
     exact .inr ⟨rfl,q,hq.trans (List.prefix_append _ _),Xd⟩
   ·rw[hC]at qk;rw[if_pos rfl];replace qk:=Xj qk;clear ih hC hl hn hr hN;unfold Pfx.v;refine callsIn_of_wp func293 rfl trivial ?_ rfl;simp only[ntmps293,YH,XA,XZ,XM,D',Zx,Zy,ZS,ZD,Ya,X8];gi_wp2_with fail
    refine⟨trivial,fun h=>(by cases h),?_⟩;refine(callsIn_wide.2 (hm.out _ (hs.ext (aw _ _)))).mono ?_;rintro e w1 ⟨rfl,cj⟩;obtain⟨ck,cq⟩:=aJ cj;have ct:=bq cj;(try simp only[Xr,aa,Xw,Xs]at ck cq ct)
    have nj:=aj (aw _ _) cj;have l1:W.heap.size < w1.heap.size:=by omega
    gi_wp2_with fail
    refine⟨trivial,fun h=>(by cases h),?_⟩;refine(callsIn_wide.2 (hh.out _)).mono ?_;rintro e w2 ⟨rfl,cA⟩;obtain⟨dN,dA⟩:=aJ cA;have dO:=bq cA;(try simp only[Xr,aa,Xw,Xs]at dN dA dO)
    have lL:=aj nj cA;have l2:W.heap.size < w2.heap.size:=by omega
    gi_wp2_with fail
    refine⟨trivial,fun h=>(by cases h),?_⟩;refine(callsIn_wide.2 (qk.out _ ((hs.ext lL).ext (aj (aw _ _) (aw _ _))))).mono ?_;rintro e w3 ⟨rfl,lT⟩;obtain⟨xL,Dy⟩:=aJ lT;have Fh:=bq lT;(try simp only[Xr,aa,Xw,Xs]at xL Dy Fh)
    have IP:=aj lL (aj (aj (aw _ _) (aw _ _)) lT);gi_wp2_with fail
    go_ret
    exact .inl ⟨rfl,by simpa using hL.ext _ _ _ hj IP,hL.kp hj IP⟩
end
end
section
open Go.Proofs Go.Shelf
attribute [local go_sem] Oper.semAt_some
theorem Kq (p:Pfx)(uo:Option Addr)(k ucap:Nat)(w:World):
 Calls prog 244 #[p.v,.slice uo k ucap] w fun e w'=>e= .returned (.func (.func 292) #[] #[.pointer (some ⟨w.heap.size,0,none⟩),.pointer (some ⟨w.heap.size+1,0,none⟩)])∧
  w'=(w.alloc (.cells #[.int .i64 p.at_,.int .i64 p.len] 32)).alloc (.cells #[.slice uo k ucap] 149):=by
 unfold Pfx.v;go_enter func244,ntmps244
 go_wp2_with fail
 go_ret
 exact⟨rfl,rfl⟩
theorem vJ {β:Type}{B:Nat}{J:β→World→Prop}(h:AbidesFrom B J):∀s X Y,J s X→dw X Y→J s Y:=fun s X Y hj hx=>
 h s X Y none hj ⟨hx.os,hx.tape,hx.output,hx.size,fun b hb _=>hx.block b hb⟩ (fun r e=>by cases e)
def KG (own:World→Nat→Prop)(G:World→Prop)(W W':World):Prop:=G W→KP own W W'∧G W'
theorem Kr (own:World→Nat→Prop)(G:World→Prop)(l n₀ b1 b2:Nat)(us:List Pfx)(uo:Option Addr)(ucap:Nat)(p:Pfx)(n:Nat)(hn:16 - p.len=(n:Int))(hr:p.right=true)(J Jx:List Pfx→World→Prop)
 (m:Nat) (hL:LoopOK own n₀ (dk us n p).length l J Jx) (W:World) (c0:W.cell? ⟨b1,0,none⟩=some (.int .i64 p.at_)) (c1:W.cell? ⟨b1,1,none⟩=some (.int .i64 p.len)) (c2:W.cell? ⟨b2,0,none⟩=some (.slice uo us.length ucap))
 (hs:Sl (fun b=>b < n₀) W 2 db uo ucap us) (h0:J [] W):
 CallsIn Fence.wide m prog 292 #[.func (.yield l) #[] #[],.pointer (some ⟨b1,0,none⟩),.pointer (some ⟨b2,0,none⟩)] W fun e W'=>(∃v,e= .returned v)∧
  ((∃ys,ys=dk us n p∧J ys W')∨(∃pre,pre <+:dk us n p∧Jx pre W')):=by
 have hd:=NP own l n₀ (dk us n p).length us uo ucap J Jx hL n p (m - 1) [] W hn hr hs h0 (by simp);simp only[Pfx.v]at hd;replace hd:=Xj hd;clear hL hn hr;refine callsIn_of_wp func292 rfl trivial ?_ rfl;simp only[ntmps292,YH,XA,XZ,XM,D',Zx,Zy,ZS,ZD,Ya,X8];gi_wp2_with fail
 refine⟨trivial,fun h=>(by cases h),?_⟩;refine hd.out.mono ?_;rintro e w1 (⟨rfl,hj,hk⟩|⟨rfl,q,hq,hx⟩)
 ·gi_wp2_with fail
  go_end0
  exact⟨⟨_,rfl⟩,.inl ⟨_,rfl,by simpa using hj⟩⟩
 ·gi_wp2_with fail
  go_end0
  exact⟨⟨_,rfl⟩,.inr ⟨q,hq,by simpa using hx⟩⟩
theorem Es (own:World→Nat→Prop)(G:World→Prop)(m n₀ b1 b2:Nat)(us:List Pfx)(uo:Option Addr)(ucap:Nat)(p:Pfx)(n:Nat)(hn:16 - p.len=(n:Int))(hr:p.right=true)(w:World)
 (Xh:G w) (Xi:∀A b,G A→own A b→n₀≤b∧b < A.heap.size) (hG2:∀A B b,G A→dw A B→own B b→own A b) (V8:∀A B,G A→dw A B→G B)
 (c0:w.cell? ⟨b1,0,none⟩=some (.int .i64 p.at_)) (c1:w.cell? ⟨b1,1,none⟩=some (.int .i64 p.len)) (c2:w.cell? ⟨b2,0,none⟩=some (.slice uo us.length ucap))
 (hs:Sl (fun b=>b < n₀) w 2 db uo ucap us):
 SeqStopsK Fence.wide m prog 292 #[.pointer (some ⟨b1,0,none⟩),.pointer (some ⟨b2,0,none⟩)] (fun x:Pfx=>#[x.v]) (KG own G) (fun ys=>ys=dk us n p) (fun pre=>pre <+:dk us n p) (dk us n p).length w:=by
 intro l J Jx W hW hJ UL hY h0;have hL:LoopOK own n₀ (dk us n p).length l (fun s A=>J s A∧G A) Jx:=by
  refine⟨fun s A B h hx=>⟨vJ hJ s A B h.1 hx,V8 A B h.2 hx⟩,fun s A B h hx=>vJ UL s A B h hx,fun s A b h ho=>Xi A b h.2 ho,fun s A B b h hx ho=>hG2 A B b h.2 hx ho,fun m' pre x W1 h hl=>?_⟩;refine YieldAt.mono (YieldAt.anyDepth rfl m' (hY pre x W1 h.1 hl)) fun e W2 h2=>?_;rcases h2 with⟨he,hj,hk⟩|h2
  ·exact .inl ⟨he,⟨hj,(hk h.2).2⟩,(hk h.2).1⟩
  ·exact .inr h2
 refine(Kr own G l n₀ b1 b2 us uo ucap p n hn hr (fun s A=>J s A∧G A) Jx m hL W (bV hW c0) (bV hW c1) (bV hW c2) (hs.ext hW) ⟨h0,V8 _ _ Xh hW⟩).mono ?_;rintro e W' ⟨hv,⟨ys,hy,hj⟩|h⟩
 ·exact⟨hv,.inl ⟨ys,hy,hj.1⟩⟩
 ·exact⟨hv,.inr h⟩
end
section
open Go.Proofs
def iP (root:Pfx):Int→List Pfx→Bool
 |_,[]=>true
 |free,p::ps=>dL p root&&(decide (free≤p.at_)&&iP root (p.at_+eD p.len) ps)
theorem tz (root:Pfx)(f:Int)(p:Pfx)(ps:List Pfx):iP root f (p::ps)=(dL p root&&(decide (f≤p.at_)&&iP root (p.at_+eD p.len) ps)):=rfl
def gY (root:Pfx)(us:List Pfx):Int:=if us.length>32 then 2 else if chk root.at_ root.len=0 then (if iP root root.at_ us then 0 else 1)else 1
theorem Et {a l b m:Int}(h:oc a l b m=true):bE a l=true:=by
 unfold oc at h;simp at h;exact h.1.1.1
theorem iQ {A:lU}(root:Pfx)(us:List Pfx)(uo:Option Addr)(ucap:Nat)(w:World)(h:Sl A w 2 db uo ucap us):
 Calls prog 88 #[.agg #[.int .i64 root.at_,.int .i64 root.len,.slice uo us.length ucap]] w fun e w'=>e= .returned (.int .i64 (gY root us))∧dw w w':=by
 have fS:=h.cap_le;have I2:=h.cap_max;by_cases fu:us.length>32
 ·have hr:gY root us=2:=by unfold gY;rw[if_pos fu]
  rw[hr];have hI:(32:Int) < (us.length:Int):=by omega
  clear hr fu;go_enter func88,ntmps88
  go_wp2_with fail
  go_ret
  refine⟨rfl,Bel.bel (B:=_) ?_⟩;(repeat(first|with_reducible assumption|with_reducible exact Bel.refl _|with_reducible refine Bel.alloc ?_ _|with_reducible refine Bel.drewN ?_ _|with_reducible refine Bel.drew ?_|(with_reducible refine Bel.setCell0 ?_ ?_ _;rotate_left;(first|omega|(simp;done)|(simp;omega)))|(with_reducible refine Bel.setCell ?_ (p:=_) ?_ _;rotate_left;(first|(simp;done)|omega|(simp;omega)))|refine Bel.call ?_ (by assumption)|(refine EX.bel ?_ (by assumption) ?_;rotate_left;(first|omega|(simp;omega)))))
 ·have hI:(us.length:Int)≤32:=by omega
  have bc:=oT root.at_ root.len;by_cases hc:chk root.at_ root.len=0
  ·obtain⟨r,hr⟩:∃r,r=gY root us:=⟨_,rfl⟩;rw[←hr];have j5:r=if iP root root.at_ us then 0 else 1:=by rw[hr];unfold gY;rw[if_neg fu,if_pos hc]
   rw[hc]at bc;clear hr hc fu;replace hr:=Xj j5;clear j5;replace bc:=Xj bc;go_enter func88,ntmps88
   go_wp2_with fail
   refine(bc.out _).mono ?_;rintro e w1 ⟨rfl,cj⟩;obtain⟨ck,cq⟩:=aJ cj;have ct:=bq cj;(try simp only[Xr,aa,Xw,Xs]at ck cq ct)
   have l1:w.heap.size < w1.heap.size:=by omega
   go_wp2_with fail
   go_loopw [3,20] (fun s3 s20 wr=>∃(k:Nat) (f:Int),k≤us.length∧s20= .int .i64 k∧s3= .int .i64 f∧Hid (iP root root.at_ us=iP root f (us.drop k))∧dw w1 wr) (fun _ s20 _=>us.length - (intOf s20).toNat)
   case atStart=>exact⟨0,root.at_,XD _,rfl,rfl,Xj rfl,Below.refl _ _⟩
   case round=>
    obtain⟨k,f,hk,rfl,rfl,hu,hx⟩:=hrel;have Aw:Bel w.heap.size w wr:=(((Bel.refl w).alloc _).call cj).call hx;obtain⟨Q8,Fc⟩:=aJ hx;have Te:=bq hx;have lr:w.heap.size < wr.heap.size:=by omega
    by_cases hlt:k < us.length
    ·have en:(k:Int) < (us.length:Int):=by omega
     have Dz:us.drop k=us[k]::us.drop (k+1):=YQ hlt;rw[Dz]at hu;clear Dz;obtain⟨b,off,cs,rfl,-,bT,hR,fl⟩:=h.elem k hlt;replace fl:=eJ (aj (aj (aw _ _) cj) hx) fl;unfold db at hR;subst hR;obtain⟨k0,k1⟩:=jm fl;have lb:=dC k0;obtain⟨p,hp⟩:∃p,p=us[k]:=⟨_,rfl⟩;rw[←hp]at k0 k1 hu;clear fl hp h;have dB:=kK p.at_ p.len root.at_ root.len;obtain⟨q,hq⟩:∃q,q=oc p.at_ p.len root.at_ root.len:=⟨_,rfl⟩;rw[←hq]at dB;have w7:iP root root.at_ us=(q&&(decide (f≤p.at_)&&iP root (p.at_+eD p.len) (us.drop (k+1)))):=by rw[hu.out,tz,hq];rfl
     clear hu;cases q
     case false=>
      have f6:r=1:=by rw[hr.out,w7];rfl
      replace f6:=Xj f6;clear w7 hr hq;replace dB:=Xj dB;go_wp2_with fail
      refine(dB.out _).mono ?_;rintro e w2 ⟨rfl,cA⟩;obtain⟨dN,dA⟩:=aJ cA;have dO:=bq cA;(try simp only[Xr,aa,Xw,Xs]at dN dA dO)
      go_wp2_with fail
      go_ret
      refine⟨ce f6.out.symm,Bel.bel (B:=_) ?_⟩;(repeat(first|with_reducible assumption|with_reducible exact Bel.refl _|with_reducible refine Bel.alloc ?_ _|with_reducible refine Bel.drewN ?_ _|with_reducible refine Bel.drew ?_|(with_reducible refine Bel.setCell0 ?_ ?_ _;rotate_left;(first|omega|(simp;done)|(simp;omega)))|(with_reducible refine Bel.setCell ?_ (p:=_) ?_ _;rotate_left;(first|(simp;done)|omega|(simp;omega)))|refine Bel.call ?_ (by assumption)|(refine EX.bel ?_ (by assumption) ?_;rotate_left;(first|omega|(simp;omega)))))
     case true=>
      have Dq:=Et hq.symm;obtain⟨g1,g2,g3,g4,-⟩:=dK Dq;obtain⟨z1,z2⟩:=eX g1;have cP:=BT p.at_ p.len;rw[tw Dq]at cP;have cM:IntKind.i64.wrap (p.at_+eD p.len)=p.at_+eD p.len:=IntWalk.i64_in _ (by omega);replace dB:=Xj dB;replace cP:=Xj cP;clear hq Dq;by_cases hf:f≤p.at_
      ·have Mn:iP root root.at_ us=iP root (p.at_+eD p.len) (us.drop (k+1)):=by rw[w7];simp[hf]
       clear w7;replace Mn:=Xj Mn;go_wp2_with fail
       refine(dB.out _).mono ?_;rintro e w2 ⟨rfl,cA⟩;obtain⟨dN,dA⟩:=aJ cA;have dO:=bq cA;(try simp only[Xr,aa,Xw,Xs]at dN dA dO)
       have l2:w.heap.size < w2.heap.size:=by omega
       have l3:wr.heap.size < w2.heap.size:=by omega
       go_wp2_with fail
       refine bZ (by kernel_rfl) (by kernel_rfl) (fun _ _ d _ _ h=>by cases d<;>exact h) ?_;repeat(first|((first|refine br rfl rfl rfl (by with_reducible rfl) ?_|refine bs rfl rfl rfl (by with_reducible rfl) ?_|refine bt rfl rfl rfl (by with_reducible rfl) ?_);simp only[Act.put,Xq,Xv,Xx])|(apply cg;(first|exact bx rfl|exact bD rfl rfl rfl (by with_reducible rfl));intro wq cL R hR;((have ef:=(aJ cL).1;(try simp only[Xr,aa,Xw,Xs]at ef));go_simp;first|exact hR|((go_at_call 176;exact iw (cP.out _) hR)));simp only[Act.put,Xq,Xv,Xx]))
       refine dJ ?_;intro w3 lT;obtain⟨xL,Dy⟩:=aJ lT;have Fh:=bq lT;(try simp only[Xr,aa,Xw,Xs]at xL Dy Fh)
       go_wp2_with fail
       go_roundw
       case rel=>exact⟨k+1,_,by omega,by go_num,rfl,Mn,aj hx (aj (aj (aw _ _) cA) lT)⟩
       case measure=>simp[intOf];omega
      ·have f6:r=1:=by rw[hr.out,w7];simp[hf]
       replace f6:=Xj f6;have hf':p.at_ < f:=by omega
       clear w7 hr hf;go_wp2_with fail
       refine(dB.out _).mono ?_;rintro e w2 ⟨rfl,cA⟩;obtain⟨dN,dA⟩:=aJ cA;have dO:=bq cA;(try simp only[Xr,aa,Xw,Xs]at dN dA dO)
       have l2:w.heap.size < w2.heap.size:=by omega
       have l3:wr.heap.size < w2.heap.size:=by omega
       go_wp2_with fail
       go_ret
       refine⟨ce f6.out.symm,Bel.bel (B:=_) ?_⟩;(repeat(first|with_reducible assumption|with_reducible exact Bel.refl _|with_reducible refine Bel.alloc ?_ _|with_reducible refine Bel.drewN ?_ _|with_reducible refine Bel.drew ?_|(with_reducible refine Bel.setCell0 ?_ ?_ _;rotate_left;(first|omega|(simp;done)|(simp;omega)))|(with_reducible refine Bel.setCell ?_ (p:=_) ?_ _;rotate_left;(first|(simp;done)|omega|(simp;omega)))|refine Bel.call ?_ (by assumption)|(refine EX.bel ?_ (by assumption) ?_;rotate_left;(first|omega|(simp;omega)))))
    ·have en:¬(k:Int) < (us.length:Int):=by omega
     obtain rfl:k=us.length:=by omega
     have f6:r=0:=by rw[hr.out,hu.out,Y7];rfl
     replace f6:=Xj f6;clear hr hu;go_wp2_with fail
     go_ret
     exact⟨ce f6.out.symm,Aw.bel⟩
  ·have hr:gY root us=1:=by unfold gY;rw[if_neg fu,if_neg hc]
   rw[hr];obtain⟨c,ef⟩:∃c,c=chk root.at_ root.len:=⟨_,rfl⟩;rw[←ef]at bc;have bB:(c !=0)=true:=by rw[ef];simpa using hc
   clear hr fu hc ef;replace bc:=Xj bc;go_enter func88,ntmps88
   go_wp2_with fail
   refine(bc.out _).mono ?_;rintro e w1 ⟨rfl,cj⟩;obtain⟨ck,cq⟩:=aJ cj;have ct:=bq cj;(try simp only[Xr,aa,Xw,Xs]at ck cq ct)
   go_wp2_with fail
   go_ret
   refine⟨rfl,Bel.bel (B:=_) ?_⟩;(repeat(first|with_reducible assumption|with_reducible exact Bel.refl _|with_reducible refine Bel.alloc ?_ _|with_reducible refine Bel.drewN ?_ _|with_reducible refine Bel.drew ?_|(with_reducible refine Bel.setCell0 ?_ ?_ _;rotate_left;(first|omega|(simp;done)|(simp;omega)))|(with_reducible refine Bel.setCell ?_ (p:=_) ?_ _;rotate_left;(first|(simp;done)|omega|(simp;omega)))|refine Bel.call ?_ (by assumption)|(refine EX.bel ?_ (by assumption) ?_;rotate_left;(first|omega|(simp;omega)))))
end
section
open Go.Proofs Go.Shelf
attribute [local go_sem] Oper.semAt_some
def iR (root:Pfx)(us:List Pfx):List Pfx:=dk us (16 - root.len).toNat root
@[go_sem] def Pfx.zero:Pfx:=⟨0,0⟩
def ll (root:Pfx)(us:List Pfx)(size:Int):Pfx × Bool × Int:=
 if gY root us=0 then
  (if size < root.len∨16 < size then (Pfx.zero,false,3)else match (iR root us).find? (fun q=>decide (q.len≤size))with|some q=>(⟨q.at_,size⟩,true,0)|none=>(Pfx.zero,false,0))
 else (Pfx.zero,false,gY root us)
def ph (W:World)(b:Nat)(cs:Array Value)(t:TypeId):Prop:=W.heap[b]? =some (.cells cs t (0,0))
theorem eK {A B:World}{row:Option Nat}{b:Nat}{cs:Array Value}{t:TypeId}(h:ph A b cs t)(hg:A.grownBy B row)(hr:∀r,row=some r→∃o:Obj,A.heap[r]? =some o∧o.isCells=false):ph B b cs t:=
 (hg.block b (oq h) (fun e=>by obtain⟨o,ho,hc⟩:=hr b e.symm;rw[show A.heap[b]? =_ from h]at ho;cases ho;cases hc)).trans h
theorem kk {A B:World}{b:Nat}{cs:Array Value}{t:TypeId}(h:ph A b cs t)(hx:dw A B):ph B b cs t:=xS hx h
theorem dn {W:World}{b o:Nat}{cs:Array Value}{t:TypeId}{v:Value}(h:ph W b cs t)(hv:cs[o]? =some v):W.cell? ⟨b,o,none⟩=some v:=w9 h hv
theorem mr {W:World}{b o:Nat}{cs:Array Value}{t:TypeId}(h:ph W b cs t):W.frozen? ⟨b,o,none⟩=false:=lM h
theorem lE {W:World}{b o:Nat}{cs:Array Value}{t:TypeId}(h:ph W b cs t)(v:Value):ph (W.setCell ⟨b,o,none⟩ v) b (cs.setIfInBounds o v) t:=xa h v
theorem dr {W:World}{b c o:Nat}{cs:Array Value}{t:TypeId}(h:ph W b cs t)(bB:c≠b)(v:Value):ph (W.setCell ⟨c,o,none⟩ v) b cs t:=(lV v bB).trans h
theorem Sl.inW {α:Type}{A:lU}{w:World}{k:Nat}{R:List Value→α→Prop}{ao:Option Addr}{cap:Nat}{l:List α}(h:Sl A w (k+1) R ao cap l):Sl (fun b=>b < w.heap.size) w (k+1) R ao cap l:=by
 refine⟨h.cap_le,h.cap_max,fun i hi=>?_⟩;obtain⟨b,off,cs,h1,h2,h3,h4,h5⟩:=h.elem i hi;exact⟨b,off,cs,h1,dC (h5 0 (by omega)),h3,h4,h5⟩
theorem Ua {own:World→Nat→Prop}{G:World→Prop}{A B C:World}(h:KG own G A B)(k:KG own G B C):KG own G A C:=fun g=>⟨(h g).1.trans (k (h g).2).1,(k (h g).2).2⟩
abbrev Ks:World→Nat→Prop:=fun _ _=>False
abbrev Ub:World→Prop:=fun _=>True
theorem Pm {W W':World}(h:dw W W'):KG Ks Ub W W':=fun _=>⟨KP.of h fun _ h=>h,trivial⟩
theorem HK {w:World}(W:World)(l:Nat)(o o':Obj)(_:w.heap.size≤l)(h:W.heap[l]? =some o)(hc:o.isCells=false)(_:o.isWalk=false):KG Ks Ub W (W.putObj l o'):=fun _=>
 ⟨⟨(grownBy_putObj' W l o').size,fun b c t f _ hb=>((grownBy_putObj' W l o').block b (oq hb) (fun e=>by cases e;rw[h]at hb;cases hb;cases hc)).trans hb,fun b _ ho=>ho⟩,trivial⟩
def Sf (w w1:World)(size:Int)(pre:List Pfx)(W:World):Prop:=
 ((∀y∈pre,decide (y.len≤size)=false)∧ph W (w.heap.size+1) #[.int .i64 size] 3∧ph W (w.heap.size+2) #[.int .i64 0,.int .i64 0] 32∧ph W (w.heap.size+3) #[.bool false] 4∧ph W (w.heap.size+4) #[.int .i64 0] 37∧w1.heap.size≤W.heap.size)∧Below w.heap.size w W
def Sg (w:World)(size:Int)(c:Code)(pre:List Pfx)(W:World):Prop:=
 (c= .ret∧∃q x,pre=q++[x]∧decide (x.len≤size)=true∧(∀y∈q,decide (y.len≤size)=false)∧ph W (w.heap.size+2) #[.int .i64 x.at_,.int .i64 size] 32∧ph W (w.heap.size+3) #[.bool true] 4∧ph W (w.heap.size+4) #[.int .i64 0] 37)∧Below w.heap.size w W
theorem Cd (w w1:World)(size:Int)(B:Nat)(hB:w.heap.size≤B):OwnFrom B (Sf w w1 size):=by
 intro s X Y row h hg hr;obtain⟨⟨h1,h2,h3,h4,h5,h6⟩,h7⟩:=h;have hr':∀r,row=some r→∃o:Obj,X.heap[r]? =some o∧o.isCells=false:=fun r e=>(hr r e).2;exact⟨⟨h1,eK h2 hg hr',eK h3 hg hr',eK h4 hg hr',eK h5 hg hr',Yy h6 hg.size⟩,h7.grown hg h7.size (fun k e=>Yy hB (hr k e).1)⟩
theorem Kt (w:World)(size:Int)(c:Code)(B:Nat)(hB:w.heap.size≤B):OwnFrom B (Sg w size c):=by
 intro s X Y row h hg hr;obtain⟨⟨h1,q,x,h2,h3,h4,h5,h6,h7⟩,h8⟩:=h;have hr':∀r,row=some r→∃o:Obj,X.heap[r]? =some o∧o.isCells=false:=fun r e=>(hr r e).2;exact⟨⟨h1,q,x,h2,h3,h4,eK h5 hg hr',eK h6 hg hr',eK h7 hg hr'⟩,h8.grown hg h8.size (fun k e=>Yy hB (hr k e).1)⟩
def Ku (w w1:World)(root:Pfx)(uo:Option Addr)(n ucap:Nat)(size:Int)(x:Pfx)(Bx:Nat):Act:=
 {tmps:=#[.agg #[.int .i64 root.at_,.int .i64 root.len,.slice uo n ucap],.int .i64 size,.pointer (some ⟨w.heap.size,0,none⟩),.pointer (some ⟨w.heap.size+1,0,none⟩),.pointer (some ⟨w.heap.size+1+1,0,none⟩),.pointer (some ⟨w.heap.size+1+1+1,0,none⟩),.pointer (some ⟨w.heap.size+1+1+1+1,0,none⟩),.int .i64 0,.pointer (some ⟨Bx,0,none⟩),
  .agg #[.int .i64 root.at_,.int .i64 root.len,.slice uo n ucap],.int .i64 0,.int .i64 0,.bool false,undef,undef,.int .i64 size,.pointer (some ⟨w.heap.size,0,none⟩),.pointer (some ⟨w.heap.size,1,none⟩),.int .i64 root.len,.bool false,.bool false,.int .i64 size,.bool false,.bool false,undef,.pointer (some ⟨w.heap.size,0,none⟩),.agg #[.int .i64 root.at_,.int .i64 root.len],.pointer (some ⟨w.heap.size,2,none⟩),.slice uo n ucap,
  .func (.func 292) #[] #[.pointer (some ⟨w1.heap.size,0,none⟩),.pointer (some ⟨w1.heap.size+1,0,none⟩)],.agg #[.int .i64 x.at_,.int .i64 x.len],undef,undef,undef,undef,undef,undef,undef,undef,undef],defers:=[]}
def Sh (w w1:World)(root:Pfx)(uo:Option Addr)(n ucap:Nat)(size:Int)(x:Pfx)(a':Act)(W:World):Prop:=
 ∃Bx,w1.heap.size≤Bx∧ph W Bx #[.int .i64 x.at_,.int .i64 x.len] 32∧a'=Ku w w1 root uo n ucap size x Bx
theorem Kv {A:lU}(root:Pfx)(us:List Pfx)(uo:Option Addr)(ucap:Nat)(size:Int)(w:World)(h:Sl A w 2 db uo ucap us)(Ay:gY root us=0)(h1:root.len≤size)(h2:size≤16):
 Calls prog 201 #[.agg #[.int .i64 root.at_,.int .i64 root.len,.slice uo us.length ucap],.int .i64 size] w fun e w'=>
  e= .returned (.tuple #[(ll root us size).1.v,.bool (ll root us size).2.1,.int .i64 (ll root us size).2.2])∧dw w w':=by
 have bc:=fun W (h:Sl A W 2 db uo ucap us)=>iQ root us uo ucap W h;rw[Ay]at bc;replace bc:=Xj bc;have Tf:=fun W=>Kq root uo us.length ucap W;unfold Pfx.v at Tf;replace Tf:=Xj Tf;refine(callsIn_wide (n:=3)).1 ?_;refine callsIn_of_wp_marks func201 rfl trivial ?_ rfl;simp only[ntmps201,YH,XA,XZ,XM,D',Zx,Zy,ZS,ZD,Ya,X8];gi_wp2_with fail
 refine⟨trivial,?_⟩;refine(callsIn_wide.2 (bc.out _ (h.ext (aj (aw _ _) (aj (aw _ _) (aj (aw _ _) (aj (aw _ _) (aw _ _)))))))).mono ?_;rintro e w1 ⟨rfl,cj⟩;obtain⟨ck,cq⟩:=aJ cj;have ct:=bq cj;(try simp only[Xr,aa,Xw,Xs]at ck cq ct)
 have l1:w.heap.size < w1.heap.size:=by omega
 have l2:w.heap.size+1 < w1.heap.size:=by omega
 gi_wp2_with fail
 refine⟨trivial,?_⟩;refine(callsIn_wide.2 (Tf.out _)).mono ?_;rintro e w2 ⟨rfl,rfl⟩;have b0:ph w1 w.heap.size #[.int .i64 root.at_,.int .i64 root.len,.slice uo us.length ucap] 151:=kk (d9 (d9 (d9 (d9 (kF _ (by simp)))))) cj;have b1:ph w1 (w.heap.size+1) #[.int .i64 size] 3:=kk (d9 (d9 (d9 (kF _ (by simp))))) cj;have b2:ph w1 (w.heap.size+2) #[.int .i64 0,.int .i64 0] 32:=kk (d9 (d9 (kF _ (by simp)))) cj;have b3:ph w1 (w.heap.size+3) #[.bool false] 4:=kk (d9 (kF _ (by simp))) cj;have b4:ph w1 (w.heap.size+4) #[.int .i64 0] 37:=kk (kF _ (by simp)) cj;have iZ:decide (size < root.len)=false:=by simp;omega
 have jX:decide (16 < size)=false:=by simp;omega
 gi_wp2_with fail
 have lL:dw w1 ((w1.alloc (.cells #[.int .i64 root.at_,.int .i64 root.len] 32)).alloc (.cells #[.slice uo us.length ucap] 149)):=aj (aw _ _) (aw _ _);have DA:dw w w1:=aj (aj (aw _ _) (aj (aw _ _) (aj (aw _ _) (aj (aw _ _) (aw _ _))))) cj;have bT:16 - root.len=(((16 - root.len).toNat:Nat):Int):=by omega
 have GF:root.right=true:=by
  unfold gY at Ay;split at Ay<;>(try split at Ay)<;>simp_all[Pfx.right,bE]
 refine wpIn_rangeFunc_ownH rfl (by omega) (gf:=292) (lb:=#[.pointer (some ⟨w1.heap.size,0,none⟩),.pointer (some ⟨w1.heap.size+1,0,none⟩)]) rfl trivial (enters_of func292 (by kernel_rfl) rfl)
  (Es Ks Ub 2 w1.heap.size w1.heap.size (w1.heap.size+1) us uo ucap root _ bT GF _ trivial (fun _ _ _ h=>h.elim) (fun _ _ _ _ _ h=>h) (fun _ _ _ _=>trivial) (by simp) (by simp) (by simp) ((((h.ext DA).inW).ext lL))) Ua (HK (w:=((w1.alloc (.cells #[.int .i64 root.at_,.int .i64 root.len] 32)).alloc (.cells #[.slice uo us.length ucap] 149)))) (Below.refl _ _) (fun _=>rfl)
  (Sf w w1 size) (Sg w size) (Cd w w1 size _ (by simp;omega)) (fun c=>Kt w size c _ (by simp;omega))
  ⟨⟨by simp,kk b1 lL,kk b2 lL,kk b3 lL,kk b4 lL,lL.size⟩,(aj DA lL).mono (XB _)⟩
  (Sh w w1 root uo us.length ucap size) (fun x a'=>by
   intro s X Y row h hg hr;obtain⟨Bx,h1,h2,h3⟩:=h;exact⟨Bx,h1,eK h2 hg (fun r e=>(hr r e).2),h3⟩) ?assign ?body ?done ?stop
 case assign=>
  intro l pre x W K hi hK;have hi':=hi;obtain⟨⟨-,-,-,-,-,cP⟩,hB⟩:=hi';unfold Pfx.v;gi_wp2
  refine hK _ _ ((KeepsOthers.alloc _ _).from _) (Pm (aw _ _)) (Cd w w1 size w.heap.size (XB _) _ _ _ none hi (World.grownBy_alloc _ _ _) (fun r e=>by cases e)) ⟨W.heap.size,cP,xR _ _,rfl⟩
 case body=>
  rintro l pre x a' W hl ⟨r,hr⟩ hi ⟨Bx,hBx,bX,rfl⟩ hlt;obtain⟨⟨hp,c1,c2,c3,c4,cP⟩,hB⟩:=hi;have x0:=dn (o:=0) bX rfl;have x1:=dn (o:=1) bX rfl;have s0:=dn (o:=0) c1 rfl;have p0:=dn (o:=0) c2 rfl;have p1:=dn (o:=1) c2 rfl;have q0:=dn (o:=0) c3 rfl;have r0:=dn (o:=0) c4 rfl;have f2:∀o,W.frozen? ⟨w.heap.size+2,o,none⟩=false:=fun o=>mr c2;have f3:∀o,W.frozen? ⟨w.heap.size+3,o,none⟩=false:=fun o=>mr c3;have f4:∀o,W.frozen? ⟨w.heap.size+4,o,none⟩=false:=fun o=>mr c4;unfold Ku;cases hx:decide (x.len≤size)
  ·have Hx:=Xj hx;gi_wp2
   exact⟨(KeepsOthers.refl _).from _,Pm (Below.refl _ _),⟨⟨fun y hy=>(X2.1 hy).elim (hp y) (fun e=>by simp at e;rw[e];exact Hx.out),c1,c2,c3,c4,cP⟩,hB⟩⟩
  ·have Hx:=Xj hx;gi_wp2
   refine⟨((((KeepsOthers.setCell _ _ _).trans (KeepsOthers.setCell _ _ _)).trans (KeepsOthers.setCell _ _ _)).trans (KeepsOthers.setCell _ _ _)).from _,⟨⟨rfl,pre,x,rfl,Hx.out,hp,?_,?_,?_⟩,?_⟩⟩
   ·exact dr (dr (lE (lE c2 _) _) (by omega) _) (by omega) _
   ·exact dr (lE (dr (dr c3 (by omega) _) (by omega) _) _) (by omega) _
   ·exact lE (dr (dr (dr c4 (by omega) _) (by omega) _) (by omega) _) _
   ·exact(((hB.setCell (p:=⟨w.heap.size+2,0,none⟩) (by simp) _).setCell (p:=⟨w.heap.size+2,1,none⟩) (by simp) _).setCell (p:=⟨w.heap.size+3,0,none⟩) (by simp) _).setCell (p:=⟨w.heap.size+4,0,none⟩) (by simp) _
 case done=>
  rintro D ys W hD rfl ⟨⟨bB,c1,c2,c3,c4,cP⟩,hB⟩ hK;have p0:=dn (o:=0) c2 rfl;have p1:=dn (o:=1) c2 rfl;have q0:=dn (o:=0) c3 rfl;have r0:=dn (o:=0) c4 rfl;have f2:∀o,W.frozen? ⟨w.heap.size+2,o,none⟩=false:=fun o=>mr c2;have f3:∀o,W.frozen? ⟨w.heap.size+3,o,none⟩=false:=fun o=>mr c3;have f4:∀o,W.frozen? ⟨w.heap.size+4,o,none⟩=false:=fun o=>mr c4;have Av:ll root us size=(Pfx.zero,false,0):=by
   unfold ll;rw[if_pos Ay,if_neg (by omega)];have:(iR root us).find? (fun q=>decide (q.len≤size))=none:=by
    rw[Yq];intro q hq;rw[bB q hq];simp
   rw[this]
  replace Av:=Xj Av;replace bB:=Xj bB;have hK':=((((KeepsOthers.setCell W ⟨w.heap.size+2,0,none⟩ (.int .i64 0)).trans (KeepsOthers.setCell _ ⟨w.heap.size+2,1,none⟩ (.int .i64 0))).trans (KeepsOthers.setCell _ ⟨w.heap.size+3,0,none⟩ (.bool false))).trans (KeepsOthers.setCell _ ⟨w.heap.size+4,0,none⟩ (.int .i64 0))).same D _ hK rfl;have e2:=eK (dr (c:=w.heap.size+4) (o:=0) (dr (c:=w.heap.size+3) (o:=0) (lE (o:=1) (lE (o:=0) c2 (.int .i64 0)) (.int .i64 0)) (by omega) (.bool false)) (by omega) (.int .i64 0)) (grownBy_putObj' _ D (.deferred none)) (fun r e=>by cases e;exact⟨_,hK',rfl⟩);have e3:=eK (dr (c:=w.heap.size+4) (o:=0) (lE (o:=0) (dr (c:=w.heap.size+2) (o:=1) (dr (c:=w.heap.size+2) (o:=0) c3 (by omega) (.int .i64 0)) (by omega) (.int .i64 0)) (.bool false)) (by omega) (.int .i64 0)) (grownBy_putObj' _ D (.deferred none)) (fun r e=>by cases e;exact⟨_,hK',rfl⟩);have e4:=eK (lE (o:=0) (dr (c:=w.heap.size+3) (o:=0) (dr (c:=w.heap.size+2) (o:=1) (dr (c:=w.heap.size+2) (o:=0) c4 (by omega) (.int .i64 0)) (by omega) (.int .i64 0)) (by omega) (.bool false)) (.int .i64 0)) (grownBy_putObj' _ D (.deferred none)) (fun r e=>by cases e;exact⟨_,hK',rfl⟩);have UM:=((((hB.setCell (p:=⟨w.heap.size+2,0,none⟩) (by simp) (.int .i64 0)).setCell (p:=⟨w.heap.size+2,1,none⟩) (by simp) (.int .i64 0)).setCell (p:=⟨w.heap.size+3,0,none⟩) (by simp) (.bool false)).setCell (p:=⟨w.heap.size+4,0,none⟩) (by simp) (.int .i64 0)).trans (belowK_b (w:=w) (XB _) _ D _ (.deferred none) (by simp at hD;omega) hK' rfl rfl);gi_wp2
  refine⟨by simp,.inl ⟨_,_,rfl,run_takeDeferred hK',?_⟩⟩;refine⟨.tuple #[Pfx.zero.v,.bool false,.int .i64 0],?_,by rw[Av.out],UM⟩;have y0:=dn (o:=0) e2 rfl;have y1:=dn (o:=1) e2 rfl;have y2:=dn (o:=0) e3 rfl;have y3:=dn (o:=0) e4 rfl;unfold Pfx.zero Pfx.v;simp[results,f201,go_sem,y0,y1,y2,y3]
 case stop=>
  rintro D c pre W hD Q9 ⟨⟨rfl,q,x,hq,hx,hn,c2,c3,c4⟩,hB⟩ hK;have Av:ll root us size=(⟨x.at_,size⟩,true,0):=by
   unfold ll;rw[if_pos Ay,if_neg (by omega)];have:(iR root us).find? (fun q=>decide (q.len≤size))=some x:=by
    obtain⟨r,hr⟩:=Q9;unfold iR;rw[←hr,hq,X3,List.find?_append];have h1:q.find? (fun q=>decide (q.len≤size))=none:=by
     rw[Yq];intro y hy;rw[hn y hy];simp
    rw[h1];simp only[X8,List.find?_cons,hx,Option.none_or]
   rw[this]
  replace Av:=Xj Av;replace hn:=Xj hn;replace hq:=Xj hq;replace Q9:=Xj Q9;have e2:=eK c2 (grownBy_putObj' _ D (.deferred none)) (fun r e=>by cases e;exact⟨_,hK,rfl⟩);have e3:=eK c3 (grownBy_putObj' _ D (.deferred none)) (fun r e=>by cases e;exact⟨_,hK,rfl⟩);have e4:=eK c4 (grownBy_putObj' _ D (.deferred none)) (fun r e=>by cases e;exact⟨_,hK,rfl⟩);have UM:=hB.trans (belowK_b (w:=w) (XB _) _ D _ (.deferred none) (by simp at hD;omega) hK rfl rfl);gi_wp2
  refine⟨by simp,.inl ⟨_,_,rfl,run_takeDeferred hK,?_⟩⟩;refine⟨.tuple #[Pfx.v ⟨x.at_,size⟩,.bool true,.int .i64 0],?_,by rw[Av.out],UM⟩;have y0:=dn (o:=0) e2 rfl;have y1:=dn (o:=1) e2 rfl;have y2:=dn (o:=0) e3 rfl;have y3:=dn (o:=0) e4 rfl;unfold Pfx.v;simp[results,f201,go_sem,y0,y1,y2,y3]
theorem NQ {A:lU}(root:Pfx)(us:List Pfx)(uo:Option Addr)(ucap:Nat)(size:Int)(w:World)(h:Sl A w 2 db uo ucap us):
 Calls prog 201 #[.agg #[.int .i64 root.at_,.int .i64 root.len,.slice uo us.length ucap],.int .i64 size] w fun e w'=>
  e= .returned (.tuple #[(ll root us size).1.v,.bool (ll root us size).2.1,.int .i64 (ll root us size).2.2])∧dw w w':=by
 by_cases h0:gY root us=0
 ·by_cases h1:root.len≤size∧size≤16
  ·exact Kv root us uo ucap size w h h0 h1.1 h1.2
  ·have hf:ll root us size=(Pfx.zero,false,3):=by unfold ll;rw[if_pos h0,if_pos (by omega)]
   rw[hf];have bc:=fun W (h:Sl A W 2 db uo ucap us)=>iQ root us uo ucap W h;rw[h0]at bc;replace bc:=Xj bc;clear hf h0;unfold Pfx.zero Pfx.v;by_cases h2:size < root.len
   ·have iZ:decide (size < root.len)=true:=by simp[h2]
    clear h1;go_enter func201,ntmps201
    go_wp2_with fail
    refine(bc.out _ (h.ext (aj (aw _ _) (aj (aw _ _) (aj (aw _ _) (aj (aw _ _) (aw _ _))))))).mono ?_;rintro e w1 ⟨rfl,cj⟩;obtain⟨ck,cq⟩:=aJ cj;have ct:=bq cj;(try simp only[Xr,aa,Xw,Xs]at ck cq ct)
    go_wp2_with fail
    refine bodyPost_ret ?_ rfl ⟨rfl,Bel.bel (B:=_) ?_⟩
    ·simp[results,results201,go_sem,ck]
    ·(repeat(first|with_reducible assumption|with_reducible exact Bel.refl _|with_reducible refine Bel.alloc ?_ _|with_reducible refine Bel.drewN ?_ _|with_reducible refine Bel.drew ?_|(with_reducible refine Bel.setCell0 ?_ ?_ _;rotate_left;(first|omega|(simp;done)|(simp;omega)))|(with_reducible refine Bel.setCell ?_ (p:=_) ?_ _;rotate_left;(first|(simp;done)|omega|(simp;omega)))|refine Bel.call ?_ (by assumption)|(refine EX.bel ?_ (by assumption) ?_;rotate_left;(first|omega|(simp;omega)))))
   ·have iZ:decide (size < root.len)=false:=by simp[h2]
    have jX:decide (16 < size)=true:=by simp;omega
    clear h1;go_enter func201,ntmps201
    go_wp2_with fail
    refine(bc.out _ (h.ext (aj (aw _ _) (aj (aw _ _) (aj (aw _ _) (aj (aw _ _) (aw _ _))))))).mono ?_;rintro e w1 ⟨rfl,cj⟩;obtain⟨ck,cq⟩:=aJ cj;have ct:=bq cj;(try simp only[Xr,aa,Xw,Xs]at ck cq ct)
    go_wp2_with fail
    refine bodyPost_ret ?_ rfl ⟨rfl,Bel.bel (B:=_) ?_⟩
    ·simp[results,results201,go_sem,ck]
    ·(repeat(first|with_reducible assumption|with_reducible exact Bel.refl _|with_reducible refine Bel.alloc ?_ _|with_reducible refine Bel.drewN ?_ _|with_reducible refine Bel.drew ?_|(with_reducible refine Bel.setCell0 ?_ ?_ _;rotate_left;(first|omega|(simp;done)|(simp;omega)))|(with_reducible refine Bel.setCell ?_ (p:=_) ?_ _;rotate_left;(first|(simp;done)|omega|(simp;omega)))|refine Bel.call ?_ (by assumption)|(refine EX.bel ?_ (by assumption) ?_;rotate_left;(first|omega|(simp;omega)))))
 ·have hf:ll root us size=(Pfx.zero,false,gY root us):=by unfold ll;rw[if_neg h0]
  rw[hf];have bc:=fun W (h:Sl A W 2 db uo ucap us)=>iQ root us uo ucap W h;obtain⟨c,hc⟩:∃c,c=gY root us:=⟨_,rfl⟩;rw[←hc]at bc h0 ⊢;have bB:(c !=0)=true:=by simpa using h0
  replace bc:=Xj bc;clear hf h0 hc;unfold Pfx.zero Pfx.v;go_enter func201,ntmps201
  go_wp2_with fail
  refine(bc.out _ (h.ext (aj (aw _ _) (aj (aw _ _) (aj (aw _ _) (aj (aw _ _) (aw _ _))))))).mono ?_;rintro e w1 ⟨rfl,cj⟩;obtain⟨ck,cq⟩:=aJ cj;have ct:=bq cj;(try simp only[Xr,aa,Xw,Xs]at ck cq ct)
  go_wp2_with fail
  refine bodyPost_ret ?_ rfl ⟨rfl,Bel.bel (B:=_) ?_⟩
  ·simp[results,results201,go_sem,ck]
  ·(repeat(first|with_reducible assumption|with_reducible exact Bel.refl _|with_reducible refine Bel.alloc ?_ _|with_reducible refine Bel.drewN ?_ _|with_reducible refine Bel.drew ?_|(with_reducible refine Bel.setCell0 ?_ ?_ _;rotate_left;(first|omega|(simp;done)|(simp;omega)))|(with_reducible refine Bel.setCell ?_ (p:=_) ?_ _;rotate_left;(first|(simp;done)|omega|(simp;omega)))|refine Bel.call ?_ (by assumption)|(refine EX.bel ?_ (by assumption) ?_;rotate_left;(first|omega|(simp;omega)))))
end
section
open Go.Proofs
def mv (q p:Pfx):Bool:=np q.at_ q.len p.at_ p.len
def yH (p q:Pfx):Bool:=xu p.at_ p.len q.at_ q.len
theorem xv {A:lU}(root:Pfx)(us:List Pfx)(uo:Option Addr)(ucap:Nat)(p:Pfx)(w:World)(h:Sl A w 2 db uo ucap us):
 Calls prog 290 #[.agg #[.int .i64 root.at_,.int .i64 root.len,.slice uo us.length ucap],.agg #[.int .i64 p.at_,.int .i64 p.len]] w fun e w'=>e= .returned (.bool (us.any fun q=>mv q p))∧dw w w':=by
 have fS:=h.cap_le;have I2:=h.cap_max;obtain⟨r,hr⟩:∃r,r=us.any fun q=>mv q p:=⟨_,rfl⟩;rw[←hr];replace hr:=Xj hr;go_enter func290,ntmps290
 go_wp2_with fail
 go_loopw [5] (fun s5 wr=>∃k:Nat,k≤us.length∧s5= .int .i64 k∧Hid (∀j (h:j < k) (h':j < us.length),mv us[j] p=false)∧dw ((w.alloc (.cells #[.int .i64 root.at_,.int .i64 root.len,.slice uo us.length ucap] 151)).alloc (.cells #[.int .i64 p.at_,.int .i64 p.len] 32)) wr) (fun s5 _=>us.length - (intOf s5).toNat)
 case atStart=>exact⟨0,XD _,rfl,Xj (fun j hj=>absurd hj (YJ _)),Below.refl _ _⟩
 case round=>
  obtain⟨k,hk,rfl,bP,hx⟩:=hrel;have DA:=aj (aj (aw _ _) (aw _ _)) hx;obtain⟨Q8,Fc⟩:=aJ hx;have Te:=bq hx;(try simp only[Xr,aa,Xw,Xs]at Q8 Fc Te)
  have lr:w.heap.size < wr.heap.size:=by omega
  have lr1:w.heap.size+1 < wr.heap.size:=by omega
  by_cases hlt:k < us.length
  ·have en:(k:Int) < (us.length:Int):=by omega
   obtain⟨b,off,cs,rfl,-,bT,hR,fl⟩:=h.elem k hlt;replace fl:=eJ DA fl;unfold db at hR;subst hR;obtain⟨k0,k1⟩:=jm fl;have lb:=dC k0;obtain⟨y,hy⟩:∃y,y=us[k]:=⟨_,rfl⟩;rw[←hy]at k0 k1;replace hy:=Xj hy;have hm:=qR y.at_ y.len p.at_ p.len;obtain⟨q,hq⟩:∃q,q=mv y p:=⟨_,rfl⟩;unfold mv at hq;rw[←hq]at hm;replace hq:=Xj hq;replace hm:=Xj hm;clear fl h;cases q
   case true=>
    go_wp2_with fail
    refine bZ (by kernel_rfl) (by kernel_rfl) (fun _ _ d _ _ h=>by cases d<;>exact h) ?_;repeat(first|((first|refine br rfl rfl rfl (by with_reducible rfl) ?_|refine bs rfl rfl rfl (by with_reducible rfl) ?_|refine bt rfl rfl rfl (by with_reducible rfl) ?_);simp only[Act.put,Xq,Xv,Xx])|(apply cg;(first|exact bx rfl|exact bD rfl rfl rfl (by with_reducible rfl));intro wq cL R hR;((have ef:=(aJ cL).1;(try simp only[Xr,aa,Xw,Xs]at ef));go_simp;first|exact hR|((go_at_call 106;exact iw (hm.out _) hR)));simp only[Act.put,Xq,Xv,Xx]))
    refine dJ ?_;intro w2 cA;obtain⟨dN,dA⟩:=aJ cA;have dO:=bq cA;(try simp only[Xr,aa,Xw,Xs]at dN dA dO)
    go_wp2_with fail
    go_ret
    exact⟨di (by rw[hr.out,XU.2 ⟨us[k],Ym hlt,by rw[←hy.out];exact hq.out.symm⟩]),aj DA cA⟩
   case false=>
    go_wp2_with fail
    refine bZ (by kernel_rfl) (by kernel_rfl) (fun _ _ d _ _ h=>by cases d<;>exact h) ?_;repeat(first|((first|refine br rfl rfl rfl (by with_reducible rfl) ?_|refine bs rfl rfl rfl (by with_reducible rfl) ?_|refine bt rfl rfl rfl (by with_reducible rfl) ?_);simp only[Act.put,Xq,Xv,Xx])|(apply cg;(first|exact bx rfl|exact bD rfl rfl rfl (by with_reducible rfl));intro wq cL R hR;((have ef:=(aJ cL).1;(try simp only[Xr,aa,Xw,Xs]at ef));go_simp;first|exact hR|((go_at_call 106;exact iw (hm.out _) hR)));simp only[Act.put,Xq,Xv,Xx]))
    refine dJ ?_;intro w2 cA;obtain⟨dN,dA⟩:=aJ cA;have dO:=bq cA;(try simp only[Xr,aa,Xw,Xs]at dN dA dO)
    go_wp2_with fail
    go_roundw
    case rel=>exact⟨k+1,by omega,by go_num,Xj (fun j hj hj'=>by
     rcases G' (Q' hj)with h1|h1
     ·exact bP.out j h1 hj'
     ·subst h1;rw[←hy.out];exact hq.out.symm),aj hx cA⟩
    case measure=>simp[intOf];omega
  ·have en:¬(k:Int) < (us.length:Int):=by omega
   obtain rfl:k=us.length:=by omega
   go_wp2_with fail
   go_ret
   exact⟨di (by
    rw[hr.out,Yh.2 (fun x hx=>?_)];obtain⟨j,hj,rfl⟩:=X0.1 hx;rw[bP.out j hj hj];simp),DA⟩
def f8 (root:Pfx):Option Pfx→List Pfx→Bool
 |_,[]=>true
 |none,p::ps=>yH p root&&f8 root (some p) ps
 |some q,p::ps=>yH p root&&(!(decide (p.at_≤q.at_)||mv q p)&&f8 root (some p) ps)
theorem vK (root p:Pfx)(ps:List Pfx):f8 root none (p::ps)=(yH p root&&f8 root (some p) ps):=rfl
theorem vL (root q p:Pfx)(ps:List Pfx):f8 root (some q) (p::ps)=(yH p root&&(!(decide (p.at_≤q.at_)||mv q p)&&f8 root (some p) ps)):=rfl
theorem HL (root:Pfx)(q:Option Pfx):f8 root q []=true:=by cases q<;>rfl
def rd (root:Pfx)(us:List Pfx):Int:=if us.length>32 then 2 else if bE root.at_ root.len then (if f8 root none us then 0 else 1)else 1
def p5 (us:List Pfx)(k:Nat):Option Pfx:=if k=0 then none else us[k - 1]?
theorem vM {A:lU}(root:Pfx)(us:List Pfx)(uo:Option Addr)(ucap:Nat)(w:World)(h:Sl A w 2 db uo ucap us):
 Calls prog 101 #[.agg #[.int .i64 root.at_,.int .i64 root.len,.slice uo us.length ucap]] w fun e w'=>e= .returned (.int .i64 (rd root us))∧dw w w':=by
 have fS:=h.cap_le;have I2:=h.cap_max;have Gv:=dX root.at_ root.len;by_cases fu:us.length>32
 ·have hr:rd root us=2:=by unfold rd;rw[if_pos fu]
  rw[hr];have hI:(32:Int) < (us.length:Int):=by omega
  clear hr fu Gv;go_enter func101,ntmps101
  go_wp2_with fail
  go_ret
  refine⟨rfl,Bel.bel (B:=_) ?_⟩;(repeat(first|with_reducible assumption|with_reducible exact Bel.refl _|with_reducible refine Bel.alloc ?_ _|with_reducible refine Bel.drewN ?_ _|with_reducible refine Bel.drew ?_|(with_reducible refine Bel.setCell0 ?_ ?_ _;rotate_left;(first|omega|(simp;done)|(simp;omega)))|(with_reducible refine Bel.setCell ?_ (p:=_) ?_ _;rotate_left;(first|(simp;done)|omega|(simp;omega)))|refine Bel.call ?_ (by assumption)|(refine EX.bel ?_ (by assumption) ?_;rotate_left;(first|omega|(simp;omega)))))
 ·have hI:(us.length:Int)≤32:=by omega
  cases hR:bE root.at_ root.len
  case false=>
   have hr:rd root us=1:=by unfold rd;rw[if_neg fu,hR];rfl
   rw[hr];rw[hR]at Gv;replace Gv:=Xj Gv;clear hr fu hR;go_enter func101,ntmps101
   go_wp2_with fail
   refine(Gv.out _).mono ?_;rintro e w1 ⟨rfl,cj⟩;obtain⟨ck,cq⟩:=aJ cj;have ct:=bq cj;(try simp only[Xr,aa,Xw,Xs]at ck cq ct)
   go_wp2_with fail
   go_ret
   refine⟨rfl,Bel.bel (B:=_) ?_⟩;(repeat(first|with_reducible assumption|with_reducible exact Bel.refl _|with_reducible refine Bel.alloc ?_ _|with_reducible refine Bel.drewN ?_ _|with_reducible refine Bel.drew ?_|(with_reducible refine Bel.setCell0 ?_ ?_ _;rotate_left;(first|omega|(simp;done)|(simp;omega)))|(with_reducible refine Bel.setCell ?_ (p:=_) ?_ _;rotate_left;(first|(simp;done)|omega|(simp;omega)))|refine Bel.call ?_ (by assumption)|(refine EX.bel ?_ (by assumption) ?_;rotate_left;(first|omega|(simp;omega)))))
  case true=>
   obtain⟨r,hr⟩:∃r,r=rd root us:=⟨_,rfl⟩;rw[←hr];have j5:r=if f8 root none us then 0 else 1:=by rw[hr];unfold rd;rw[if_neg fu,hR];rfl
   rw[hR]at Gv;replace Gv:=Xj Gv;clear hr fu hR;replace hr:=Xj j5;clear j5;go_enter func101,ntmps101
   go_wp2_with fail
   refine(Gv.out _).mono ?_;rintro e w1 ⟨rfl,cj⟩;obtain⟨ck,cq⟩:=aJ cj;have ct:=bq cj;(try simp only[Xr,aa,Xw,Xs]at ck cq ct)
   have nj:=aj (aw _ _) cj;have l1:w.heap.size < w1.heap.size:=by omega
   go_wp2_with fail
   go_loopw [3] (fun s3 wr=>∃(k:Nat),k≤us.length∧s3= .int .i64 k∧Hid (f8 root none us=f8 root (p5 us k) (us.drop k))∧dw w1 wr) (fun s3 _=>us.length - (intOf s3).toNat)
   case atStart=>exact⟨0,XD _,rfl,Xj rfl,Below.refl _ _⟩
   case round=>
    obtain⟨k,hk,rfl,hu,hx⟩:=hrel;have DA:=aj nj hx;obtain⟨Q8,Fc⟩:=aJ hx;have Te:=bq hx;have lr:w.heap.size < wr.heap.size:=by omega
    by_cases hlt:k < us.length
    ·have en:(k:Int) < (us.length:Int):=by omega
     have Dz:us.drop k=us[k]::us.drop (k+1):=YQ hlt;have DB:p5 us (k+1)=some us[k]:=by unfold p5;rw[if_neg (by omega)];simp[Xk hlt]
     rw[Dz]at hu;clear Dz;obtain⟨b,off,cs,UN,-,bT,V9,fl⟩:=h.elem k hlt;replace fl:=eJ DA fl;unfold db at V9;subst V9;obtain⟨k0,k1⟩:=jm fl;have lb:=dC k0;obtain⟨p,hp⟩:∃p,p=us[k]:=⟨_,rfl⟩;rw[←hp]at k0 k1 hu DB;replace DB:=Xj DB;clear fl hp;have dB:=qQ p.at_ p.len root.at_ root.len;obtain⟨q,hq⟩:∃q,q=xu p.at_ p.len root.at_ root.len:=⟨_,rfl⟩;rw[←hq]at dB;match k,hk,hlt with
     |0,hk,hlt=>
      have w7:f8 root none us=(q&&f8 root (some p) (us.drop 1)):=by rw[hu.out];show f8 root none (p::us.drop 1)=_;rw[vK,hq];rfl
      clear hu hq h;subst UN;rw[Nat.zero_mul,XW]at k0 k1;replace dB:=Xj dB;cases q
      case false=>
       have f6:r=1:=by rw[hr.out,w7];rfl
       replace f6:=Xj f6;clear w7 hr;go_wp2_with fail
       refine bZ (by kernel_rfl) (by kernel_rfl) (fun _ _ d _ _ h=>by cases d<;>exact h) ?_;repeat(first|((first|refine br rfl rfl rfl (by with_reducible rfl) ?_|refine bs rfl rfl rfl (by with_reducible rfl) ?_|refine bt rfl rfl rfl (by with_reducible rfl) ?_);simp only[Act.put,Xq,Xv,Xx])|(apply cg;(first|exact bx rfl|exact bD rfl rfl rfl (by with_reducible rfl));intro wq cL R hR;((have ef:=(aJ cL).1;(try simp only[Xr,aa,Xw,Xs]at ef));go_simp;first|exact hR|((go_at_call 169;exact iw (dB.out _) hR)));simp only[Act.put,Xq,Xv,Xx]))
       refine dJ ?_;intro w2 cA;obtain⟨dN,dA⟩:=aJ cA;have dO:=bq cA;(try simp only[Xr,aa,Xw,Xs]at dN dA dO)
       go_wp2_with fail
       go_ret
       exact⟨ce f6.out.symm,aj DA cA⟩
      case true=>
       have Mn:f8 root none us=f8 root (p5 us (0+1)) (us.drop (0+1)):=by rw[w7,DB.out];rfl
       replace Mn:=Xj Mn;clear w7;go_wp2_with fail
       refine bZ (by kernel_rfl) (by kernel_rfl) (fun _ _ d _ _ h=>by cases d<;>exact h) ?_;repeat(first|((first|refine br rfl rfl rfl (by with_reducible rfl) ?_|refine bs rfl rfl rfl (by with_reducible rfl) ?_|refine bt rfl rfl rfl (by with_reducible rfl) ?_);simp only[Act.put,Xq,Xv,Xx])|(apply cg;(first|exact bx rfl|exact bD rfl rfl rfl (by with_reducible rfl));intro wq cL R hR;((have ef:=(aJ cL).1;(try simp only[Xr,aa,Xw,Xs]at ef));go_simp;first|exact hR|((go_at_call 169;exact iw (dB.out _) hR)));simp only[Act.put,Xq,Xv,Xx]))
       refine dJ ?_;intro w2 cA;obtain⟨dN,dA⟩:=aJ cA;have dO:=bq cA;(try simp only[Xr,aa,Xw,Xs]at dN dA dO)
       go_wp2_with fail
       go_roundw
       case rel=>exact⟨0+1,by omega,by go_num,Mn,aj hx cA⟩
       case measure=>simp[intOf];try omega
     |j+1,hk,hlt=>
      have L8:j < us.length:=by omega
      obtain⟨b',off',cs',Th,-,Wa,Ti,xM⟩:=h.elem j L8;rw[UN]at Th;cases Th;replace xM:=eJ DA xM;unfold db at Ti;subst Ti;obtain⟨m0,m1⟩:=jm xM;have Wb:p5 us (j+1)=some us[j]:=by unfold p5;rw[if_neg (by omega)];simp[Xk L8]
      rw[Wb]at hu;obtain⟨y,hy⟩:∃y,y=us[j]:=⟨_,rfl⟩;rw[←hy]at m0 m1 hu;clear Wb hy xM h;subst UN;have MR:=qR y.at_ y.len p.at_ p.len;obtain⟨t,ht⟩:∃t,t=mv y p:=⟨_,rfl⟩;have w7:f8 root none us=(q&&(!(decide (p.at_≤y.at_)||t)&&f8 root (some p) (us.drop (j+1+1)))):=by rw[hu.out,vL,hq,ht];rfl
      unfold mv at ht;rw[←ht]at MR;clear hu ht hq;replace dB:=Xj dB;replace MR:=Xj MR;have j6:IntKind.i64.wrap (j:Int)=(j:Int):=IntWalk.i64_in _ (by omega);have a0a:IntKind.i64.wrap ((j:Int)+1 - 1)=(j:Int):=by rw[show ((j:Int)+1 - 1)=j from by omega];exact j6
      have QQ:(0:Int)≤(j:Int):=by omega
      have Wc:(0:Int) < (j:Int)+1:=by omega
      have Wd:(j:Int) < (us.length:Int):=by omega
      have We:(j:Int)+1 < (us.length:Int):=by omega
      have htn:((j:Int)+1).toNat=j+1:=by omega
      have RO:(0:Int)≤(j:Int)+1:=by omega
      clear en;cases q
      case false=>
       have f6:r=1:=by rw[hr.out,w7];rfl
       replace f6:=Xj f6;clear w7 hr;go_wp2_with fail
       refine bZ (by kernel_rfl) (by kernel_rfl) (fun _ _ d _ _ h=>by cases d<;>exact h) ?_;repeat(first|((first|refine br rfl rfl rfl (by with_reducible rfl) ?_|refine bs rfl rfl rfl (by with_reducible rfl) ?_|refine bt rfl rfl rfl (by with_reducible rfl) ?_);simp only[Act.put,Xq,Xv,Xx])|(apply cg;(first|exact bx rfl|exact bD rfl rfl rfl (by with_reducible rfl));intro wq cL R hR;((have ef:=(aJ cL).1;(try simp only[Xr,aa,Xw,Xs]at ef));go_simp;first|exact hR|((go_at_call 169;exact iw (dB.out _) hR)));simp only[Act.put,Xq,Xv,Xx]))
       refine dJ ?_;intro w2 cA;obtain⟨dN,dA⟩:=aJ cA;have dO:=bq cA;(try simp only[Xr,aa,Xw,Xs]at dN dA dO)
       go_wp2_with fail
       go_ret
       exact⟨ce f6.out.symm,aj DA cA⟩
      case true=>
       by_cases hge:p.at_≤y.at_
       ·have f6:r=1:=by rw[hr.out,w7];simp[hge]
        replace f6:=Xj f6;clear w7 hr;go_wp2_with fail
        refine bZ (by kernel_rfl) (by kernel_rfl) (fun _ _ d _ _ h=>by cases d<;>exact h) ?_;repeat(first|((first|refine br rfl rfl rfl (by with_reducible rfl) ?_|refine bs rfl rfl rfl (by with_reducible rfl) ?_|refine bt rfl rfl rfl (by with_reducible rfl) ?_);simp only[Act.put,Xq,Xv,Xx])|(apply cg;(first|exact bx rfl|exact bD rfl rfl rfl (by with_reducible rfl));intro wq cL R hR;((have ef:=(aJ cL).1;(try simp only[Xr,aa,Xw,Xs]at ef));go_simp;first|exact hR|((go_at_call 169;exact iw (dB.out _) hR)));simp only[Act.put,Xq,Xv,Xx]))
        refine dJ ?_;intro w2 cA;obtain⟨dN,dA⟩:=aJ cA;have dO:=bq cA;(try simp only[Xr,aa,Xw,Xs]at dN dA dO)
        go_wp2_with fail
        go_ret
        exact⟨ce f6.out.symm,aj DA cA⟩
       ·have UO:decide (p.at_≤y.at_)=false:=by simp[hge]
        cases t
        case true=>
         have f6:r=1:=by rw[hr.out,w7];simp
         replace f6:=Xj f6;clear w7 hr;go_wp2_with fail
         refine bZ (by kernel_rfl) (by kernel_rfl) (fun _ _ d _ _ h=>by cases d<;>exact h) ?_;repeat(first|((first|refine br rfl rfl rfl (by with_reducible rfl) ?_|refine bs rfl rfl rfl (by with_reducible rfl) ?_|refine bt rfl rfl rfl (by with_reducible rfl) ?_);simp only[Act.put,Xq,Xv,Xx])|(apply cg;(first|exact bx rfl|exact bD rfl rfl rfl (by with_reducible rfl));intro wq cL R hR;((have ef:=(aJ cL).1;(try simp only[Xr,aa,Xw,Xs]at ef));go_simp;first|exact hR|(first|(go_at_call 169;exact iw (dB.out _) hR)|(go_at_call 106;exact iw (MR.out _) hR)));simp only[Act.put,Xq,Xv,Xx]))
         refine dJ ?_;intro w2 cA;obtain⟨dN,dA⟩:=aJ cA;have dO:=bq cA;(try simp only[Xr,aa,Xw,Xs]at dN dA dO)
         go_wp2_with fail
         go_ret
         exact⟨ce f6.out.symm,aj DA cA⟩
        case false=>
         have Mn:f8 root none us=f8 root (p5 us (j+1+1)) (us.drop (j+1+1)):=by rw[w7,DB.out,UO];rfl
         replace Mn:=Xj Mn;clear w7;go_wp2_with fail
         refine bZ (by kernel_rfl) (by kernel_rfl) (fun _ _ d _ _ h=>by cases d<;>exact h) ?_;repeat(first|((first|refine br rfl rfl rfl (by with_reducible rfl) ?_|refine bs rfl rfl rfl (by with_reducible rfl) ?_|refine bt rfl rfl rfl (by with_reducible rfl) ?_);simp only[Act.put,Xq,Xv,Xx])|(apply cg;(first|exact bx rfl|exact bD rfl rfl rfl (by with_reducible rfl));intro wq cL R hR;((have ef:=(aJ cL).1;(try simp only[Xr,aa,Xw,Xs]at ef));go_simp;first|exact hR|(first|(go_at_call 169;exact iw (dB.out _) hR)|(go_at_call 106;exact iw (MR.out _) hR)));simp only[Act.put,Xq,Xv,Xx]))
         refine dJ ?_;intro w2 cA;obtain⟨dN,dA⟩:=aJ cA;have dO:=bq cA;(try simp only[Xr,aa,Xw,Xs]at dN dA dO)
         go_wp2_with fail
         go_roundw
         case rel=>exact⟨j+1+1,by omega,by go_num,Mn,aj hx cA⟩
         case measure=>simp[intOf];omega
    ·have en:¬(k:Int) < (us.length:Int):=by omega
     obtain rfl:k=us.length:=by omega
     have f6:r=0:=by rw[hr.out,hu.out,Y7,HL];rfl
     replace f6:=Xj f6;clear hr hu;go_wp2_with fail
     go_ret
     exact⟨ce f6.out.symm,DA⟩
end
section
open Go.Proofs
def tB (a b:Pfx):Prop:=a.hi≤b.at_
theorem mX (root:Pfx):∀(us:List Pfx) (f:Int),iP root f us=true↔(∀u∈us,dL u root=true)∧(∀u∈us,f≤u.at_)∧us.Pairwise tB
 |[],f=>by simp[iP]
 |p::ps,f=>by
  rw[tz,Xy,Xy,decide_eq_true_eq,mX root ps,YC];constructor
  ·intro⟨h1,h2,h3,h4,h5⟩;have hp:=p.hi_bd (cw.1 h1).1;refine⟨?_,?_,⟨fun u hu=>h4 u hu,h5⟩⟩
   ·intro u hu;rcases X7.1 hu with rfl|hu
    ·exact h1
    ·exact h3 u hu
   ·intro u hu;rcases X7.1 hu with rfl|hu
    ·exact h2
    ·have:=h4 u hu;unfold Pfx.hi at hp;omega
  ·intro⟨h1,h2,h3,h4⟩;exact⟨h1 p (by simp),h2 p (by simp),fun u hu=>h1 u (by simp[hu]),fun u hu=>h3 u hu,h4⟩
theorem oW (root:Pfx):∀(us:List Pfx) (q:Pfx),q.right=true→(f8 root (some q) us=true↔(∀u∈us,dL u root=true)∧(∀u∈us,q.hi≤u.at_)∧us.Pairwise tB)
 |[],q,_=>by simp[f8]
 |p::ps,q,hq=>by
  have hqb:=q.hi_bd hq;rw[vL,Xy,Xy,YC];have e1:yH p root=dL p root:=um p root;rw[e1];constructor
  ·intro⟨h1,h2,h3⟩;have GG:=(cw.1 h1).1;have hp:=p.hi_bd GG;rw[oW root ps p GG]at h3;obtain⟨g1,g2,g3⟩:=h3;have h4:q.hi≤p.at_:=by
    simp only[Zz,Zm,decide_eq_false_iff_not]at h2;obtain⟨k1,k2⟩:=h2;have k3:¬q.meets p=true:=by rw[←eZ];unfold mv at k2;rw[k2];simp
    rw[dQ]at k3;rcases z' p.at_ q.hi with h|h
    ·exact absurd ⟨hq,GG,by omega,h⟩ k3
    ·exact h
   refine⟨?_,?_,⟨fun u hu=>g2 u hu,g3⟩⟩
   ·intro u hu;rcases X7.1 hu with rfl|hu
    ·exact h1
    ·exact g1 u hu
   ·intro u hu;rcases X7.1 hu with rfl|hu
    ·exact h4
    ·have:=g2 u hu;omega
  ·intro⟨h1,h2,h3,h4⟩;have wR:=h1 p (by simp);have GG:=(cw.1 wR).1;have hqp:=h2 p (by simp);refine⟨wR,?_,(oW root ps p GG).2 ⟨fun u hu=>h1 u (by simp[hu]),fun u hu=>h3 u hu,h4⟩⟩;simp only[Zz,Zm,decide_eq_false_iff_not];refine⟨by omega,?_⟩;unfold mv;rw[eZ,YE];intro h;have:=(dQ.1 h).2.2;omega
theorem NR (root:Pfx)(us:List Pfx):f8 root none us=iP root root.at_ us:=by
 rw[Yi,mX];cases us with
 |nil=>simp[f8]
 |cons p ps=>
  rw[vK,Xy,YC];have e1:yH p root=dL p root:=um p root;rw[e1];constructor
  ·intro⟨h1,h2⟩;obtain⟨k1,k2,k3,k4⟩:=cw.1 h1;have hp:=p.hi_bd k1;rw[oW root ps p k1]at h2;obtain⟨g1,g2,g3⟩:=h2;refine⟨?_,?_,⟨fun u hu=>g2 u hu,g3⟩⟩
   ·intro u hu;rcases X7.1 hu with rfl|hu
    ·exact h1
    ·exact g1 u hu
   ·intro u hu;rcases X7.1 hu with rfl|hu
    ·exact k3
    ·have:=g2 u hu;omega
  ·intro⟨h1,h2,h3,h4⟩;have wR:=h1 p (by simp);exact⟨wR,(oW root ps p (cw.1 wR).1).2 ⟨fun u hu=>h1 u (by simp[hu]),fun u hu=>h3 u hu,h4⟩⟩
theorem NS (root:Pfx)(us:List Pfx):rd root us=gY root us:=by
 unfold rd gY;rw[NR];by_cases h:us.length>32
 ·rw[if_pos h,if_pos h]
 ·rw[if_neg h,if_neg h];unfold bE;by_cases h2:chk root.at_ root.len=0
  ·simp[h2]
  ·simp[h2]
structure SpaceOK (root:Pfx)(us:List Pfx):Prop where
 rr:root.right=true
 many:us.length≤32
 ins:∀u∈us,dL u root=true
 apart:us.Pairwise tB
theorem re {root:Pfx}{us:List Pfx}:gY root us=0↔SpaceOK root us:=by
 unfold gY;constructor
 ·intro h;split at h
  ·omega
  ·rename_i h1;split at h
   ·rename_i h2;split at h
    ·rename_i h3;obtain⟨g1,g2,g3⟩:=(mX root us _).1 h3;exact⟨by simp[Pfx.right,bE,h2],by omega,g1,g3⟩
    ·omega
   ·omega
 ·intro⟨h1,h2,h3,h4⟩;have hc:chk root.at_ root.len=0:=by unfold Pfx.right bE at h1;simpa using h1
  rw[if_neg (by omega),if_pos hc,if_pos ((mX root us _).2 ⟨h3,fun u hu=>(cw.1 (h3 u hu)).2.2.1,h4⟩)]
end
section
open Go.Proofs
def iS (us:List Pfx)(p:Pfx):Bool:=!us.any p.meets
theorem uq {p:Pfx}(h:p.right=true)(hl:p.len < 16):p.low.at_=p.at_∧p.low.hi=p.high.at_∧p.high.hi=p.hi∧p.at_ < p.high.at_∧p.high.at_ < p.hi:=by
 obtain⟨g1,-⟩:=p.bd h;have e:=qT g1 hl;have s1:=eX (n:=p.len+1) (by omega);unfold Pfx.low Pfx.high Pfx.hi;refine⟨rfl,rfl,?_,?_,?_⟩<;>simp<;>omega
theorem mY {a b c:Pfx}(h:dL a b=true)(k:dL b c=true):dL a c=true:=by
 rw[cw]at*;exact⟨h.1,k.2.1,by omega,by omega⟩
theorem Kw {b p:Pfx}(h:dL b p=true)(hl:p.len < b.len):dL b p.low=true∨dL b p.high=true:=by
 obtain⟨k1,k2,k3,k4⟩:=cw.1 h;obtain⟨b1,b2,-⟩:=b.bd k1;have Ra:p.len < 16:=by omega
 obtain⟨e1,e2,e3,e4,e5⟩:=uq k2 Ra;have hb:=b.hi_bd k1;rcases z' b.at_ p.high.at_ with hlt|hle
 ·left;rw[eY];exact⟨k1,jn k2 Ra,by simp[Pfx.low];omega,by rw[e1];exact k3,by rw[e2];exact hlt⟩
 ·right;rw[eY];exact⟨k1,ij k2 Ra,by simp[Pfx.high];omega,hle,by rw[e3];omega⟩
theorem Kx {p:Pfx}(h:p.right=true)(hl:p.len < 16):dL p.low p=true:=by
 obtain⟨e1,e2,e3,e4,e5⟩:=uq h hl;exact cw.2 ⟨jn h hl,h,by omega,by omega⟩
theorem HM {p:Pfx}(h:p.right=true)(hl:p.len < 16):dL p.high p=true:=by
 obtain⟨e1,e2,e3,e4,e5⟩:=uq h hl;exact cw.2 ⟨ij h hl,h,by omega,by omega⟩
theorem yI {p:Pfx}(h:p.right=true):dL p p=true:=cw.2 ⟨h,h,by omega,by omega⟩
theorem ot (us:List Pfx):∀(n:Nat) (p:Pfx),16 - p.len=(n:Int)→p.right=true→∀q∈dk us n p,dL q p=true∧iS us q=true
 |0,p,hn,hr,q,hq=>by
  unfold dk at hq;split at hq
  ·cases hq
  ·rename_i h;obtain rfl:q=p:=by simpa using hq
   exact⟨yI hr,by unfold iS;simpa using h⟩
 |n+1,p,hn,hr,q,hq=>by
  unfold dk at hq;split at hq
  ·split at hq
   ·cases hq
   ·have hl:p.len < 16:=by omega
    rcases X2.1 hq with h|h
    ·have:=ot us n p.low (by simp[Pfx.low];omega) (jn hr hl) q h;exact⟨mY this.1 (Kx hr hl),this.2⟩
    ·have:=ot us n p.high (by simp[Pfx.high];omega) (ij hr hl) q h;exact⟨mY this.1 (HM hr hl),this.2⟩
  ·rename_i h;obtain rfl:q=p:=by simpa using hq
   exact⟨yI hr,by unfold iS;simpa using h⟩
theorem ou (us:List Pfx):∀(n:Nat) (p:Pfx),16 - p.len=(n:Int)→p.right=true→(dk us n p).Pairwise tB
 |0,p,hn,hr=>by unfold dk;split<;>simp
 |n+1,p,hn,hr=>by
  unfold dk;split
  ·split
   ·simp
   ·have hl:p.len < 16:=by omega
    have h1:=ou us n p.low (by simp[Pfx.low];omega) (jn hr hl);have h2:=ou us n p.high (by simp[Pfx.high];omega) (ij hr hl);refine YT.2 ⟨h1,h2,fun a ha b hb=>?_⟩;have ka:=(cw.1 (ot us n p.low (by simp[Pfx.low];omega) (jn hr hl) a ha).1);have kb:=(cw.1 (ot us n p.high (by simp[Pfx.high];omega) (ij hr hl) b hb).1);obtain⟨e1,e2,e3,e4,e5⟩:=uq hr hl;unfold tB;omega
  ·simp
theorem vN (us:List Pfx)(hu:∀u∈us,u.right=true):∀(n:Nat) (p:Pfx),16 - p.len=(n:Int)→p.right=true→∀b,dL b p=true→iS us b=true→∃h∈dk us n p,dL b h=true
 |n,p,hn,hr,b,hb,hf=>by
  have tW:=(cw.1 hb).1;have hbh:=b.hi_bd tW;by_cases hm:us.any p.meets=true
  ·have I1:us.contains p=false:=by
    rw[YE];intro hc;have hp:p∈us:=by simpa using hc
    have:us.any b.meets=true:=XU.2 ⟨p,hp,dQ.2 ⟨tW,hr,by have:=eY.1 hb;omega,by have:=eY.1 hb;omega⟩⟩;unfold iS at hf;rw[this]at hf;cases hf
   have bT:p.len < b.len:=by
    have h3:=(eY.1 hb).2.2.1;rcases Int.lt_or_eq_of_le h3 with h|h
    ·exact h
    ·exfalso;have hi:=(cw.1 hb);have:b=p:=by
      obtain⟨ba,bl⟩:=b;obtain⟨pa,pl⟩:=p;simp only[Pfx.mk.injEq];simp only[Pfx.hi]at hi;simp only at h;subst h;exact⟨by omega,rfl⟩
     subst this;unfold iS at hf;rw[hm]at hf;cases hf
   obtain⟨b1,b2,-⟩:=b.bd tW;have hl:p.len < 16:=by omega
   match n,hn with
   |0,hn=>omega
   |n+1,hn=>
    unfold dk;rw[if_pos hm,if_neg (by rw[I1];simp)];rcases Kw hb bT with h|h
    ·obtain⟨q,hq,hi⟩:=vN us hu n p.low (by simp[Pfx.low];omega) (jn hr hl) b h hf;exact⟨q,X2.2 (.inl hq),hi⟩
    ·obtain⟨q,hq,hi⟩:=vN us hu n p.high (by simp[Pfx.high];omega) (ij hr hl) b h hf;exact⟨q,X2.2 (.inr hq),hi⟩
  ·refine⟨p,?_,hb⟩;match n with
   |0=>unfold dk;rw[if_neg hm];simp
   |n+1=>unfold dk;rw[if_neg hm];simp
theorem p6 {root:Pfx}{us:List Pfx}(h:SpaceOK root us){q:Pfx}(hq:q∈iR root us):dL q root=true∧iS us q=true:=by
 obtain⟨g1,g2,-⟩:=root.bd h.rr;exact ot us _ root (by omega) h.rr q hq
theorem xw {root:Pfx}{us:List Pfx}(h:SpaceOK root us):(iR root us).Pairwise tB:=by
 obtain⟨g1,g2,-⟩:=root.bd h.rr;exact ou us _ root (by omega) h.rr
theorem Eu {root:Pfx}{us:List Pfx}(h:SpaceOK root us){b:Pfx}(hb:dL b root=true)(hf:iS us b=true):∃q∈iR root us,dL b q=true:=by
 obtain⟨g1,g2,-⟩:=root.bd h.rr;exact vN us (fun u hu=>(cw.1 (h.ins u hu)).1) _ root (by omega) h.rr b hb hf
theorem Ce {us:List Pfx}{a b:Pfx}(h:dL a b=true)(hf:iS us b=true):iS us a=true:=by
 unfold iS at*;rw[Zz]at*;rw[Yh]at*;intro u hu hm;obtain⟨k1,k2,k3,k4⟩:=cw.1 h;obtain⟨m1,m2,m3,m4⟩:=dQ.1 hm;exact hf u hu (dQ.2 ⟨k2,m2,by omega,by omega⟩)
theorem Ky {root:Pfx}{us:List Pfx}(h:SpaceOK root us){size at_:Int}(lh:root.len≤size)(oK:size≤16)(hi:dL ⟨at_,size⟩ root=true)(hf:iS us ⟨at_,size⟩=true)
 (DC:∀b,b < at_→dL ⟨b,size⟩ root=true→iS us ⟨b,size⟩=false):∃q,(iR root us).find? (fun q=>decide (q.len≤size))=some q∧q.at_=at_:=by
 obtain⟨q,hq,OW⟩:=Eu h hi hf;have sS:=(eY.1 OW).2.2.1;cases gN:(iR root us).find? (fun q=>decide (q.len≤size))with
 |none=>
  rw[Yq]at gN;exact absurd sS (by simpa using gN q hq)
 |some x=>
  refine⟨x,rfl,?_⟩;obtain⟨nj,⟨la,lb,gE,cf⟩⟩:=List.find?_eq_some_iff_append.1 gN;have Fa:x.len≤size:=by simpa using nj
  have hxm:x∈iR root us:=by rw[gE];simp
  obtain⟨xi,xf⟩:=p6 h hxm;obtain⟨k1,k2,k3,k4⟩:=cw.1 xi;obtain⟨x1,x2,x3,x4,x5⟩:=x.bd k1;obtain⟨g1,g2,-⟩:=root.bd h.rr;have nI:=x.hi_bd k1;have cG:dL ⟨x.at_,size⟩ x=true:=by
   rw[eY];obtain⟨k,hk,pc⟩:=mU x1 Fa oK;exact⟨od (a:=x.at_) (l:=size) (by omega) oK x3 x4 (ZB (C' ⟨k,hk⟩ (YL x5))),k1,Fa,ZG _,nI.1⟩
  have hge:at_≤x.at_:=by
   rcases z' x.at_ at_ with hlt|hle
   ·have:=DC x.at_ hlt (mY cG xi);rw[Ce cG xf]at this;cases this
   ·exact hle
  have hle:x.at_≤q.at_:=by
   rw[gE]at hq;rcases X2.1 hq with h1|h1
   ·exact absurd (cf q h1) (by simp[sS])
   ·rcases X7.1 h1 with rfl|h2
    ·exact ZG _
    ·have hs:=xw h;rw[gE]at hs;have:=(YC.1 (YT.1 hs).2.1).1 q h2;unfold tB at this;omega
  have hqa:=(cw.1 OW).2.2.1;simp only at hqa;omega
theorem Kz {root:Pfx}{us:List Pfx}(h:SpaceOK root us){size:Int}(lh:root.len≤size)(oK:size≤16)
 (cf:∀b,dL ⟨b,size⟩ root=true→iS us ⟨b,size⟩=false):(iR root us).find? (fun q=>decide (q.len≤size))=none:=by
 rw[Yq];intro x hx Fa;simp only[decide_eq_true_eq]at Fa;obtain⟨xi,xf⟩:=p6 h hx;obtain⟨k1,k2,k3,k4⟩:=cw.1 xi;obtain⟨x1,x2,x3,x4,x5⟩:=x.bd k1;obtain⟨g1,g2,-⟩:=root.bd h.rr;have nI:=x.hi_bd k1;have cG:dL ⟨x.at_,size⟩ x=true:=by
  rw[eY];obtain⟨k,hk,pc⟩:=mU x1 Fa oK;exact⟨od (a:=x.at_) (l:=size) (by omega) oK x3 x4 (ZB (C' ⟨k,hk⟩ (YL x5))),k1,Fa,ZG _,nI.1⟩
 have:=cf x.at_ (mY cG xi);rw[Ce cG xf]at this;cases this
end
section
open Go.Proofs
def nC (root:Pfx)(us:List Pfx)(size:Int):Pfx × Bool:=
 match (iR root us).find? (fun q=>decide (q.len≤size))with|some q=>(⟨q.at_,size⟩,true)|none=>(Pfx.zero,false)
theorem HN (us:List Pfx)(p:Pfx):(us.any fun q=>mv q p)=us.any p.meets:=by
 congr 1;funext q;unfold mv;rw[eZ,pX]
def F3 (us:List Pfx)(p:Pfx)(k:Nat)(f:Int):Prop:=p.at_≤f∧f≤65535∧(f=p.at_∨∃u∈us,u.right=true∧u.meets p=true∧f=u.hi - 1)
theorem KA {us:List Pfx}{p u:Pfx}{k:Nat}{f:Int}(h:F3 us p k f)(hu:u∈us)(hr:u.right=true)(hm:u.meets p=true):F3 us p (k+1) (max f (u.hi - 1)):=by
 obtain⟨h1,h2,h3⟩:=h;have hb:=u.hi_bd hr;refine⟨by omega,by omega,?_⟩;rcases Int.le_total f (u.hi - 1)with hl|hl
 ·right;exact⟨u,hu,hr,hm,_e hl⟩
 ·rw[_i hl];exact h3
def yJ (root:Pfx)(us:List Pfx)(size at_:Int):Prop:=∀b,b < at_→dL ⟨b,size⟩ root=true→iS us ⟨b,size⟩=false
theorem Cf (root:Pfx)(us:List Pfx)(size:Int):yJ root us size root.at_:=fun b hb hi=>by
 have:=(cw.1 hi).2.2.1;simp only at this;omega
theorem Ev {root:Pfx}{us:List Pfx}{size at_ f:Int}(h:yJ root us size at_)(hr:Pfx.right ⟨at_,size⟩=true)(hf:F3 us ⟨at_,size⟩ us.length f)(hm:us.any (Pfx.meets ⟨at_,size⟩)=true):
 yJ root us size (max at_ (f / eD size*eD size)+eD size):=by
 intro b hb hi;obtain⟨g1,g2,g3,g4,g5⟩:=Pfx.bd hr;simp only at g1 g2 g3 g4 g5;have s1:=eX g1;have tW:=(cw.1 hi).1;obtain⟨b1,b2,b3,b4,b5⟩:=Pfx.bd tW;simp only at b3 b4 b5;rcases z' b at_ with hlt|hle
 ·exact h b hlt hi
 ·
  have hd:eD size ∣ b - at_:=Int.dvd_sub (YL b5) (YL g5);rcases Int.lt_or_eq_of_le hle with hlt|heq
  ·have h1:=qU (by omega) (show 0 < b - at_ by omega) hd;have xK:b≤f:=by
    have e1:=Int.emod_add_mul_ediv f (eD size);have e2:=Int.emod_nonneg f (b:=eD size) (by omega);have e3:f / eD size*eD size=eD size*(f / eD size):=Int.mul_comm _ _;rcases Int.le_total at_ (f / eD size*eD size)with hl|hl
    ·rw[_e hl]at hb;have zf:eD size ∣ f / eD size*eD size - b:=Int.dvd_sub ⟨f / eD size,e3⟩ (YL b5);rcases z' (f / eD size*eD size) b with oJ|hle2
     ·have:=qU (s:=eD size) (x:=b - f / eD size*eD size) (by omega) (by omega) (by have:=Int.dvd_neg.2 zf;rwa [Int.neg_sub]at this);omega
     ·omega
    ·rw[_i hl]at hb;omega
   obtain⟨k1,k2,k3⟩:=hf;simp only at k1 k3;rcases k3 with k3|⟨u,hu,OX,IQ,hfu⟩
   ·omega
   ·obtain⟨_,_,m3,m4⟩:=dQ.1 IQ;simp only[Pfx.hi]at m3 m4;unfold iS;rw[XU.2 ⟨u,hu,dQ.2 ⟨tW,OX,by simp only;omega,by simp only[Pfx.hi];omega⟩⟩];rfl
  ·subst heq;unfold iS;rw[hm];rfl
theorem KB {root:Pfx}{us:List Pfx}(h:SpaceOK root us){size at_:Int}(lh:root.len≤size)(oK:size≤16)(hi:dL ⟨at_,size⟩ root=true)(hm:us.any (Pfx.meets ⟨at_,size⟩)=false)(hn:yJ root us size at_):nC root us size=(⟨at_,size⟩,true):=by
 obtain⟨q,hq,he⟩:=Ky h lh oK hi (by unfold iS;rw[hm];rfl) hn;unfold nC;rw[hq];simp only[he]
theorem HO {root:Pfx}{us:List Pfx}(h:SpaceOK root us){size at_:Int}(lh:root.len≤size)(oK:size≤16)(ha:root.hi≤at_)(hn:yJ root us size at_):nC root us size=(Pfx.zero,false):=by
 have:=Kz h lh oK fun b hb=>hn b (by obtain⟨k1,k2,k3,k4⟩:=cw.1 hb;have:=Pfx.hi_bd k1;simp only at this;omega) hb;unfold nC;rw[this]
theorem HQ {A:lU}(root:Pfx)(us:List Pfx)(uo:Option Addr)(ucap:Nat)(size:Int)(w:World)(h:Sl A w 2 db uo ucap us)(bF:SpaceOK root us)(lh:root.len≤size)(oK:size≤16):
 Calls prog 223 #[.agg #[.int .i64 root.at_,.int .i64 root.len,.slice uo us.length ucap],.int .i64 size] w fun e w'=>e= .returned (.tuple #[(nC root us size).1.v,.bool (nC root us size).2])∧dw w w':=by
 have fS:=h.cap_le;have I2:=h.cap_max;obtain⟨g1,g2,g3,g4,g5⟩:=root.bd bF.rr;have pn:=root.hi_bd bF.rr;have wJ:0≤size:=by omega
 obtain⟨z1,z2⟩:=eX wJ;have cP:=fun W=>pU size W wJ oK;have nm:=jH root.at_ root.len;have sV:kI root.at_ root.len=root.hi - 1:=rfl;have GF:bE root.at_ root.len=true:=bF.rr;replace nm:=fun W=>nm W GF;rw[sV]at nm;obtain⟨R,hR⟩:∃R,R=nC root us size:=⟨_,rfl⟩;rw[←hR];have TM:=fun at_=>KB (at_:=at_) bF lh oK;have TN:=fun at_=>HO (at_:=at_) bF lh oK;rw[←hR]at TM TN;replace TM:=Xj TM;replace TN:=Xj TN;replace cP:=Xj cP;replace nm:=Xj nm;obtain⟨st,dP⟩:∃st,st=eD size:=⟨_,rfl⟩;rw[←dP]at cP z1 z2;obtain⟨rh,Tj⟩:∃rh,rh=root.hi:=⟨_,rfl⟩;rw[←Tj]at nm pn;have Fi:=Cf root us size;have Mo:root.at_ % st=0:=by
  obtain⟨k,hk,-⟩:=mU g1 lh oK;rw[dP];exact ZB (C' ⟨k,hk⟩ (YL g5))
 replace dP:=Xj dP;replace Tj:=Xj Tj;replace Fi:=Xj Fi;replace Mo:=Xj Mo;clear hR g5 sV GF;go_enter func223,ntmps223
 go_wp2_with fail
 refine(cP.out _).mono ?_;rintro e w1 ⟨rfl,rfl⟩;go_wp2_with fail
 go_loopw [7] (fun s7 wr=>∃at_:Int,s7= .int .i64 at_∧root.at_≤at_∧at_≤140000∧Hid (at_ % st=0)∧Hid (yJ root us size at_)∧dw ((w.alloc (.cells #[.int .i64 root.at_,.int .i64 root.len,.slice uo us.length ucap] 151)).alloc (.cells #[.int .i64 0,.int .i64 0] 32)) wr) (fun s7 _=>(200000 - intOf s7).toNat)
 case atStart=>exact⟨root.at_,rfl,ZG _,by omega,Mo,Fi,Below.refl _ _⟩
 case round=>
  obtain⟨at_,rfl,QW,ha2,pg,cf,hx⟩:=hrel;have DA:=aj (aj (aw _ _) (aw _ _)) hx;obtain⟨Q8,Fc⟩:=aJ hx;have Te:=bq hx;(try simp only[Xr,aa,Xw,Xs]at Q8 Fc Te)
  have lr:w.heap.size < wr.heap.size:=by omega
  have lr1:w.heap.size+1 < wr.heap.size:=by omega
  go_wp2_with fail
  refine(nm.out _).mono ?_;rintro e w2 ⟨rfl,cA⟩;obtain⟨dN,dA⟩:=aJ cA;have dO:=bq cA;(try simp only[Xr,aa,Xw,Xs]at dN dA dO)
  have l2:w.heap.size < w2.heap.size:=by omega
  have l21:w.heap.size+1 < w2.heap.size:=by omega
  have t0:w2.cell? ⟨w.heap.size+1,0,none⟩=some (.int .i64 0):=bV cA (bV hx (by simp));have t1:w2.cell? ⟨w.heap.size+1,1,none⟩=some (.int .i64 0):=bV cA (bV hx (by simp));have tf:∀o,w2.frozen? ⟨w.heap.size+1,o,none⟩=false:=fun o=>by rw[dA _ _ lr1,Fc _ _ (by omega)];simp
  by_cases hlt:at_≤rh - 1
  ·have hxw:=aj DA cA;have cG:dL ⟨at_,size⟩ root=true:=by
    rw[eY];exact⟨od (a:=at_) (l:=size) wJ oK (by omega) (by omega) (by rw[←dP.out];exact pg.out),bF.rr,lh,QW,by rw[←Tj.out];show at_ < rh;omega⟩
   have tW:=(cw.1 cG).1;replace cG:=Xj cG;replace tW:=Xj tW;go_wp2_with fail
   obtain⟨wo,RP⟩:∃wo:World,wo=w2.alloc (.cells #[.int .i64 at_,.int .i64 size] 32):=⟨_,rfl⟩;have PF:dw w2 wo:=by rw[RP];exact aw _ _
   have q0:wo.cell? ⟨w2.heap.size,0,none⟩=some (.int .i64 at_):=by rw[RP];simp
   have q1:wo.cell? ⟨w2.heap.size,1,none⟩=some (.int .i64 size):=by rw[RP];simp
   have s0:wo.cell? ⟨w.heap.size,0,none⟩=some (.int .i64 root.at_):=bV PF (bV cA (bV hx (by simp)));have s1:wo.cell? ⟨w.heap.size,1,none⟩=some (.int .i64 root.len):=bV PF (bV cA (bV hx (by simp)));have s2:wo.cell? ⟨w.heap.size,2,none⟩=some (.slice uo us.length ucap):=bV PF (bV cA (bV hx (by simp)));have t0o:=bV PF t0;have t1o:=bV PF t1;have tfo:∀o,wo.frozen? ⟨w.heap.size+1,o,none⟩=false:=fun o=>by rw[(aJ PF).2 _ _ l21];exact tf o
   have Rb:=aj hxw PF;have l3:w2.heap.size < wo.heap.size:=by rw[RP];simp
   have l31:w.heap.size < wo.heap.size:=by omega
   have l32:w.heap.size+1 < wo.heap.size:=by omega
   rw[←RP];clear RP dN dA Q8 Fc t0 t1 tf nm;obtain⟨wz,rfl⟩:∃wz:World,wz=wr:=⟨_,rfl⟩;go_loopw [9,10] (fun s9 s10 wr2=>∃(k:Nat) (f:Int),k≤us.length∧s10= .int .i64 k∧s9= .int .i64 f∧at_≤f∧f≤65535∧Hid (F3 us ⟨at_,size⟩ k f)∧dw wo wr2) (fun _ s10 _=>us.length - (intOf s10).toNat)
   case atStart=>exact⟨0,at_,XD _,rfl,rfl,ZG _,by omega,Xj ⟨ZG _,(by show at_≤65535;omega),.inl rfl⟩,Below.refl _ _⟩
   case round=>
    obtain⟨k,f,hk,rfl,rfl,zj,AH,Mp,lL⟩:=hrel;obtain⟨Q8,Fc⟩:=aJ lL;have a0b:=bq lL;have m1:w.heap.size < wr.heap.size:=by omega
    have m2:w2.heap.size < wr.heap.size:=by omega
    have m3:w.heap.size+1 < wr.heap.size:=by omega
    by_cases i4:k < us.length
    ·have en:(k:Int) < (us.length:Int):=by omega
     obtain⟨b,off,cs,rfl,-,bT,hR',fl⟩:=h.elem k i4;replace fl:=eJ (aj Rb lL) fl;unfold db at hR';subst hR';obtain⟨k0,k1⟩:=jm fl;have lb:=dC k0;have OX:=(cw.1 (bF.ins us[k] (Ym i4))).1;have IQ:=Ym i4;obtain⟨y,hy⟩:∃y,y=us[k]:=⟨_,rfl⟩;rw[←hy]at k0 k1 OX IQ;have hyb:=y.hi_bd OX;have hm:=qR y.at_ y.len at_ size;have nH:np y.at_ y.len at_ size=y.meets ⟨at_,size⟩:=eZ y ⟨at_,size⟩;rw[nH]at hm;have hl:=fun W=>jH y.at_ y.len W OX;rw[show kI y.at_ y.len=y.hi - 1 from rfl]at hl;obtain⟨q,hq⟩:∃q,q=y.meets ⟨at_,size⟩:=⟨_,rfl⟩;rw[←hq]at hm;obtain⟨yh,TO⟩:∃yh,yh=y.hi:=⟨_,rfl⟩;rw[←TO]at hl hyb;replace TO:=Xj TO;replace hq:=Xj hq;replace hm:=Xj hm;replace hl:=Xj hl;replace OX:=Xj OX;replace IQ:=Xj IQ;have hya:=(y.bd OX.out).2.2.1;clear fl hy h nH;cases q
     case true=>
      have rM:=KA Mp.out IQ.out OX.out hq.out.symm;rw[←TO.out]at rM;replace rM:=Xj rM;go_wp2_with fail
      refine bZ (by kernel_rfl) (by kernel_rfl) (fun _ _ d _ _ h=>by cases d<;>exact h) ?_;repeat(first|((first|refine br rfl rfl rfl (by with_reducible rfl) ?_|refine bs rfl rfl rfl (by with_reducible rfl) ?_|refine bt rfl rfl rfl (by with_reducible rfl) ?_);simp only[Act.put,Xq,Xv,Xx])|(apply cg;(first|exact bx rfl|exact bD rfl rfl rfl (by with_reducible rfl));intro wq cL R hR;((have ef:=(aJ cL).1;(try simp only[Xr,aa,Xw,Xs]at ef));go_simp;first|exact hR|((go_at_call 106;exact iw (hm.out _) hR)));simp only[Act.put,Xq,Xv,Xx]))
      refine dJ ?_;intro w4 AG;obtain⟨Rc,Mm⟩:=aJ AG;have Ml:=bq AG;(try simp only[Xr,aa,Xw,Xs]at Rc Mm Ml)
      go_wp2_with fail
      refine(hl.out _).mono ?_;rintro e w5 ⟨rfl,IR⟩;obtain⟨Mq,IS⟩:=aJ IR;have Mr:=bq IR;(try simp only[Xr,aa,Xw,Xs]at Mq IS Mr)
      go_wp2_with fail
      go_roundw
      case rel=>exact⟨k+1,max f (yh - 1),by omega,by go_num,rfl,by omega,by omega,rM,aj lL (aj AG IR)⟩
      case measure=>simp[intOf];omega
     case false=>
      go_wp2_with fail
      refine bZ (by kernel_rfl) (by kernel_rfl) (fun _ _ d _ _ h=>by cases d<;>exact h) ?_;repeat(first|((first|refine br rfl rfl rfl (by with_reducible rfl) ?_|refine bs rfl rfl rfl (by with_reducible rfl) ?_|refine bt rfl rfl rfl (by with_reducible rfl) ?_);simp only[Act.put,Xq,Xv,Xx])|(apply cg;(first|exact bx rfl|exact bD rfl rfl rfl (by with_reducible rfl));intro wq cL R hR;((have ef:=(aJ cL).1;(try simp only[Xr,aa,Xw,Xs]at ef));go_simp;first|exact hR|((go_at_call 106;exact iw (hm.out _) hR)));simp only[Act.put,Xq,Xv,Xx]))
      refine dJ ?_;intro w4 AG;obtain⟨Rc,Mm⟩:=aJ AG;have Ml:=bq AG;(try simp only[Xr,aa,Xw,Xs]at Rc Mm Ml)
      go_wp2_with fail
      go_roundw
      case rel=>exact⟨k+1,f,by omega,by go_num,rfl,zj,AH,Xj ⟨Mp.out.1,Mp.out.2.1,Mp.out.2.2⟩,aj lL AG⟩
      case measure=>simp[intOf];omega
    ·have en:¬(k:Int) < (us.length:Int):=by omega
     obtain rfl:k=us.length:=by omega
     have Re:=fun W (h:Sl A W 2 db uo ucap us)=>xv root us uo ucap ⟨at_,size⟩ W h;rw[HN]at Re;simp only at Re;obtain⟨q,hq⟩:∃q,q=us.any (Pfx.meets ⟨at_,size⟩):=⟨_,rfl⟩;rw[←hq]at Re;replace hq:=Xj hq;replace Re:=Xj Re;have TL:=h.ext (aj Rb lL);have l22:=l21;cases q
     case false=>
      have qh:=TM.out at_ cG.out hq.out.symm cf.out;replace qh:=Xj qh;have t0r:=bV lL t0o;have t1r:=bV lL t1o;have tfr:∀o,wr.frozen? ⟨w.heap.size+1,o,none⟩=false:=fun o=>by rw[Fc _ _ l32];exact tfo o
      go_wp2_with fail
      refine(Re.out _ TL).mono ?_;rintro e w5 ⟨rfl,IR⟩;obtain⟨Mq,IS⟩:=aJ IR;have Mr:=bq IR;(try simp only[Xr,aa,Xw,Xs]at Mq IS Mr)
      have t05:=bV IR t0r;have t15:=bV IR t1r;have tf5:∀o,w5.frozen? ⟨w.heap.size+1,o,none⟩=false:=fun o=>by rw[IS _ _ m3];exact tfr o
      go_wp2_with fail
      refine bodyPost_ret ?_ rfl ⟨by rw[qh.out],?_⟩
      ·unfold Pfx.v;simp[results,results223,go_sem,t05,t15]
      ·exact Bel.bel (B:=w.heap.size) (((Bel.refl w).call (aj Rb (aj lL IR))).setCell0 (by omega) _|>.setCell0 (by omega) _)
     case true=>
      have PG:=Ev cf.out tW.out Mp.out hq.out.symm;rw[←dP.out]at PG;have h9:0≤f / st∧f / st*st≤f:=⟨Int.ediv_nonneg (by omega) (by omega),Int.ediv_mul_le f (by omega)⟩;have h10:=h9.1;have h11:=h9.2;have Mh:0≤f / st*st:=Int.mul_nonneg h10 (by omega);have lg:(max at_ (f / st*st)+st) % st=0:=by
       rw[Int.add_emod_right];rcases Int.le_total at_ (f / st*st)with hh|hh
       ·rw[_e hh];exact Int.mul_emod_left _ _
       ·rw[_i hh];exact pg.out
      replace PG:=Xj PG;replace lg:=Xj lg;clear h9;go_wp2_with fail
      refine(Re.out _ TL).mono ?_;rintro e w5 ⟨rfl,IR⟩;obtain⟨Mq,IS⟩:=aJ IR;have Mr:=bq IR;(try simp only[Xr,aa,Xw,Xs]at Mq IS Mr)
      go_wp2_with fail
      go_roundw
      case rel=>exact⟨_,rfl,by omega,by omega,lg,PG,aj hx (aj cA (aj PF (aj lL IR)))⟩
      case measure=>simp[intOf];omega
  ·have IN:rh - 1 < at_:=by omega
   have qh:=TN.out at_ (by rw[←Tj.out];omega) cf.out;replace qh:=Xj qh;go_wp2_with fail
   refine bodyPost_ret ?_ rfl ⟨by rw[qh.out],?_⟩
   ·unfold Pfx.zero Pfx.v;simp[results,results223,go_sem,t0,t1]
   ·exact Bel.bel (B:=w.heap.size) (((Bel.refl w).call (aj DA cA)).setCell0 (by omega) _|>.setCell0 (by omega) _)
end
theorem HR (root:Pfx)(us:List Pfx):af prog 88 [.agg (Ea root us)] (.v (.int .i64 (gY root us))):=by
 refine⟨cW func88 (by kernel_rfl) rfl,fun M w vs hM hG ft=>?_⟩;obtain⟨v,vs,rfl,h1,ft⟩:=fy ft;rw[mh ft];obtain⟨uo,cap,rfl,hs⟩:=zQ h1;exact(iQ root us uo cap w hs).mono fun e w' ⟨he,hx⟩=>⟨_,he,.v _,hx⟩
theorem zY (root:Pfx)(us:List Pfx):af prog 101 [.agg (Ea root us)] (.v (.int .i64 (gY root us))):=by
 refine⟨cW func101 (by kernel_rfl) rfl,fun M w vs hM hG ft=>?_⟩;obtain⟨v,vs,rfl,h1,ft⟩:=fy ft;rw[mh ft];obtain⟨uo,cap,rfl,hs⟩:=zQ h1;have:=vM root us uo cap w hs;rw[NS]at this;exact this.mono fun e w' ⟨he,hx⟩=>⟨_,he,.v _,hx⟩
theorem NT (root:Pfx)(us:List Pfx)(size:Int):af prog 201 [.agg (Ea root us),.v (.int .i64 size)] (.tup [.agg (aN (ll root us size).1),.v (.bool (ll root us size).2.1),.v (.int .i64 (ll root us size).2.2)]):=by
 refine⟨cW func201 (by kernel_rfl) rfl,fun M w vs hM hG ft=>?_⟩;obtain⟨v,vs,rfl,h1,ft⟩:=fy ft;obtain⟨v,vs,rfl,h2,ft⟩:=fy ft;rw[mh ft];obtain⟨uo,cap,rfl,hs⟩:=zQ h1;rw[so h2];exact(NQ root us uo cap size w hs).mono fun e w' ⟨he,hx⟩=>⟨_,he,zP rfl rfl,hx⟩
theorem NU (root:Pfx)(us:List Pfx)(size:Int)(bF:SpaceOK root us)(h1:root.len≤size)(h2:size≤16):af prog 223 [.agg (Ea root us),.v (.int .i64 size)] (.tup [.agg (aN (nC root us size).1),.v (.bool (nC root us size).2)]):=by
 refine⟨cW func223 (by kernel_rfl) rfl,fun M w vs hM hG ft=>?_⟩;obtain⟨v,vs,rfl,g1,ft⟩:=fy ft;obtain⟨v,vs,rfl,g2,ft⟩:=fy ft;rw[mh ft];obtain⟨uo,cap,rfl,hs⟩:=zQ g1;rw[so g2];exact(HQ root us uo cap size w hs bF h1 h2).mono fun e w' ⟨he,hx⟩=>⟨_,he,zP rfl rfl,hx⟩
def f9:List Int→Bool
 |a::b::l=>decide (a≤b)&&f9 (b::l)
 |_=>true
theorem p7:∀(l:List Int),f9 l=true↔∀j (h:j+1 < l.length),l[j]≤l[j+1]
 |[]=>by simp[f9]
 |[a]=>by simp[f9]
 |a::b::l=>by
  have ih:=p7 (b::l);simp only[f9,Xy,decide_eq_true_eq,ih];constructor
  ·rintro⟨h1,h2⟩ j hj;cases j with
   |zero=>exact h1
   |succ j=>exact h2 j (by simpa using hj)
  ·intro h;exact⟨h 0 (by simp),fun j hj=>h (j+1) (by simpa using hj)⟩
theorem Ew (l:List Int)(hl:l.length≤1000000000)(h0:l≠[]):af prog 177 [.sl 1 (l.map fun n=>[R7 n])] (.v (.bool (f9 l))):=by
 have II:0 < l.length:=Zd.2 h0;have QP:IntKind.i64.wrap ((l.length:Int) - 1)=((l.length - 1:Nat):Int):=by rw[IntKind.wrap_i64];omega
 refine pj func177 ntmps177 results177 ?_;refine am ?_<;>intros;refine bL ae ak (fun m e h=>∃i:Nat,i < l.length∧(∀j (h:j+1 < l.length),i≤j→l[j]≤l[j+1])∧m=i∧e=[(3,.d (.v (.int .i64 i))),(2,.d (.v (.bool false))),(0,.d (.sl 1 (l.map fun n=>[R7 n])))]∧h=[]) _ _ _ ⟨l.length - 1,by omega,fun j h1 h2=>by omega,rfl,rfl,rfl⟩ ?_ ?_
 ·exact wf (x:=[]) (hh:=rfl) (he:=⟨rfl,rfl,rfl,trivial⟩)
 ·rintro m e h ⟨i,hi,bF,hm,rfl,rfl⟩ CL mJ;by_cases jU:0 < i
  ·obtain⟨x,hx⟩:∃x,l[i]? =some x:=⟨_,Xk hi⟩;obtain⟨y,hy⟩:∃y,l[i - 1]? =some y:=⟨_,Xk (by omega)⟩;have nE:l[i]=x:=by rw[Xk hi]at hx;exact XX.inj hx
   have wY:l[i - 1]=y:=by rw[Xk (by omega)]at hy;exact XX.inj hy
   have hgt:decide ((i:Int)>0)=true:=by simpa using jU
   have hw:IntKind.i64.wrap ((i:Int) - 1)=((i - 1:Nat):Int):=by rw[IntKind.wrap_i64];omega
   cases hlt:decide (x < y)with
   |true=>
    have Rf:f9 l=false:=by
     rw[YE,ne_eq,p7];intro h;have:=h (i - 1) (by omega);simp only[show i - 1+1=i by omega,nE,wY]at this;simp at hlt;omega
    have AF:=Kn x y;rw[hlt]at AF;exact aZ;all_goals(rw[Rf];exact ai.refl _)
   |false=>
    have AF:=Kn x y;rw[hlt]at AF;refine am ?_<;>intros;refine mJ _ _ _ _ _ ?_ ⟨i - 1,by omega,?_,rfl,rfl,rfl⟩ (wf (x:=[]) (hh:=rfl) (he:=⟨rfl,rfl,rfl,trivial⟩))
    ·omega
    ·intro j hj hij;rcases XP (i - 1) j with h1|h1
     ·exact bF j hj (by omega)
     ·obtain rfl:j=i - 1:=by omega
      simp only[show i - 1+1=i by omega,nE,wY];simp at hlt;omega
  ·have TP:i=0:=by omega
   have Tk:f9 l=true:=(p7 l).2 fun j hj=>bF j hj (by omega);have hgt:decide ((i:Int)>0)=false:=by simp;omega
   replace TP:=Xj TP;exact aZ;all_goals(rw[Tk];exact ai.refl _)
def dR (n:Int):Bool:=decide (1≤n)&&decide (n≤65536)
theorem yK (n:Int):af prog 87 [.v (.int .i64 n)] (.v (.bool (dR n))):=by
 cases e1:decide (n≥1)with
 |true=>
  have h1:decide (1≤n)=true:=e1;refine pj func87 ntmps87 results87 ?_;refine am ?_<;>intros;all_goals(unfold dR;rw[h1];exact ai.refl _)
 |false=>
  have h1:decide (1≤n)=false:=e1;refine pj func87 ntmps87 results87 ?_;refine am ?_<;>intros;all_goals(unfold dR;rw[h1];exact ai.refl _)
def fD (r:Rul)(len:Int):Bool:=f9 [len,r.min,r.usual,r.max,16]&&(decide (0≤r.cool)&&decide (r.cool≤1024))
theorem Ex (r:Rul)(root:Pfx):af prog 90 [.agg (pi r),.agg (aN root)] (.v (.bool (fD r root.len))):=by
 have hs:=Ew [root.len,r.min,r.usual,r.max,16] (by simp) (by simp);unfold fD;cases h0:f9 [root.len,r.min,r.usual,r.max,16]with
 |false=>
  rw[h0]at hs;refine pj func90 ntmps90 results90 ?_;exact aZ;all_goals exact ai.refl _
 |true=>
  rw[h0]at hs;show af _ _ _ (.v (.bool (true&&(decide (r.cool≥0)&&decide (r.cool≤1024)))));cases e1:decide (r.cool≥0)with
  |true=>
   refine pj func90 ntmps90 results90 ?_;exact aZ;all_goals exact ai.refl _
  |false=>
   refine pj func90 ntmps90 results90 ?_;exact aZ;all_goals exact ai.refl _
def dt (p:Pol):List Pfx:=p.leases.map (·.at_)
theorem F4 (p:Pol)(hb:p.leases.length≤3518437208882):af prog 89 [.ept (ah p)] (.agg (Ea p.root (dt p))):=by
 refine pj func89 ntmps89 results89 ?_;refine am ?_<;>intros;refine bL ae ak (fun m e h=>∃k g:Nat,k≤p.leases.length∧m=p.leases.length - k∧e=[(16,.d (.v (.int .i64 k))),(15,.d (.v (.int .i64 p.leases.length))),(14,.d (.sl 5 (p.leases.map aV))),(3,.ptr 1 0),(2,.ptr 0 0)]∧
  h=[.box 151 [.d (.v (.int .i64 0)),.d (.v (.int .i64 0)),.d (.v (.slice none 0 0))],.box 151 [.d (.v (.int .i64 p.root.at_)),.d (.v (.int .i64 p.root.len)),.own 2 g],.row 32 2 g (ab (((dt p).take k).map aN))]) _ _ _ ⟨0,0,XD _,rfl,rfl,rfl⟩ ?_ ?_
 ·exact(au (by simp) 1 _ _ 2 _ _ rfl rfl rfl).trans (wf (x:=[]) (hh:=rfl) (he:=⟨rfl,rfl,rfl,rfl,rfl,trivial⟩))
 ·rintro m e h ⟨k,g,hk,hm,rfl,rfl⟩ CL mJ;by_cases hlt:k < p.leases.length
  ·obtain⟨l,hl⟩:∃l,p.leases[k]? =some l:=⟨_,Xk hlt⟩;have en:(k:Int) < (p.leases.length:Int):=by omega
   have cM:=wi k (by omega);have rI:(((dt p).take k).length+1)*16≤140737488355328:=by rw[Xp,dt,XC];omega
   refine am ?_<;>intros;have UP:(dt p).take (k+1)=(dt p).take k++[l.at_]:=ag (by rw[dt,Xz,hl];rfl);refine mJ _ _ _ _ _ ?_ ⟨k+1,g+1,hlt,rfl,rfl,rfl⟩ (wf (x:=[.box 68 ((aV l).map .d)]) (hh:=?_) (he:=⟨rfl,rfl,rfl,rfl,rfl,trivial⟩))
   ·omega
   ·rw[UP,Xo];rfl
  ·obtain rfl:k=p.leases.length:=by omega
   refine am ?_<;>intros;rw[XN (by simp[dt])];all_goals exact ai.refl _
theorem kW (p:Lse):(aV p).length=5:=rfl
theorem kX (p:Pol):(ah p).length=9:=rfl
theorem zZ {α:Type}{enc:α→List D}(l:List α)(i j g:Nat)(hi:i < l.length)(hj:j=i+1):
 MSpec prog 205 [.own 0 g,.d (.v (.int .i64 i)),.d (.v (.int .i64 j))] [.row 68 5 g (ab (l.map enc))] (.own 0 (g+1)) [.row 68 5 (g+1) (ab ((l.eraseIdx i).map enc))]:=by
 have h1:((i:Int)==(j:Int))=false:=by simp;omega
 have bB:¬ab (l.map enc)=[]:=by cases l<;>simp[ab]at hi ⊢
 have hle:(i:Int)≤(j:Int):=by omega
 have hle2:(j:Int)≤(l.length:Int):=by omega
 have lR:(l.map enc).length=l.length:=XC _;have h2:=lA (ab (l.map enc)) i j l.length (by rw[aF,lR];exact hi) hj (by rw[aF,lR]);rw[aF,lR]at h2;have rN:=Xj hj;clear hj;have I4:j≤l.length:=by have:=rN.out;omega
 have DC:min (l.length - j) (l.length - j)=l.length - j:=Zq _;have hlt:i+(l.length - j)≤l.length:=by have:=rN.out;omega
 have pc:l.length - (i+(l.length - j))=1:=by have:=rN.out;omega
 have iV:i+(l.length - j)+1≤l.length:=by have:=rN.out;omega
 have ue:¬ay (ab (l.map enc)) i (((ab (l.map enc)).drop j).take (l.length - j))=[]:=by
  intro h;rw[h]at h2;simp at h2;omega
 refine mj func205 ntmps205 results205 ?_;repeat' (first|(with_reducible refine And.intro ?_ ?_)|(with_reducible refine cm (fun _=>?_) (fun _=>?_))|(with_reducible refine aA (fun _=>?_) (fun _=>?_))|(with_reducible refine be (by kernel_rfl))|simp -dsimp only[go_sem,seval, *,h1,bB,Yo,Xp,XI]|((with_reducible refine bf ?_);simp -dsimp only[go_sem,seval,h1,bB,Yo,Xp,XI];first|refine aC (by first|assumption|fail) (by first|exact .inl rfl|exact .inr rfl) ?_|refine aB (by assumption) (by repeat(first|exact ai.refl _|exact ai.nil _|(refine ai.tup ?_)|(refine ai.agg ?_ rfl)|exact trivial|(refine And.intro ?_ ?_))) (by first|exact .inl rfl|exact .inr rfl) ?_)|omega|exact decide_eq_true (by omega)|exact ai.refl _)
 rw[fU];exact n7 (by rw[lR];exact hi) rN.out lR.symm
theorem iz {α:Type}(enc:α→List D)(l:List α)(hl:l.length≤1000000000):
 MSpec prog 51 [.d (.sl 5 (l.map enc))] [] (.own 0 1) [.row 68 5 1 (ab (l.map enc))]:=by
 cases l with
 |nil=>
  refine qI (pl:=[]) (ql:=[]) fun ao cap=>?_;cases ao with
  |none=>
   simp only[Ya];refine mj func51 ntmps51 results51 ?_;repeat' (first|(with_reducible refine And.intro ?_ ?_)|(with_reducible refine cm (fun _=>?_) (fun _=>?_))|(with_reducible refine aA (fun _=>?_) (fun _=>?_))|(with_reducible refine be (by kernel_rfl))|simp -dsimp only[go_sem,seval, *,Zk,XR]|((with_reducible refine bf ?_);simp -dsimp only[go_sem,seval,Zk,XR];first|refine aC (by first|assumption|fail) (by first|exact .inl rfl|exact .inr rfl) ?_|refine aB (by assumption) (by repeat(first|exact ai.refl _|exact ai.nil _|(refine ai.tup ?_)|(refine ai.agg ?_ rfl)|exact trivial|(refine And.intro ?_ ?_))) (by first|exact .inl rfl|exact .inr rfl) ?_)|omega|exact decide_eq_true (by omega)|exact ai.refl _)
   refine iL (h:=[]) (XB _) 68 5 ?_;exact(fT 0 0 68 5 [] rfl (bo rfl rfl))
  |some a=>
   simp only[Ya];refine mj func51 ntmps51 results51 ?_;repeat' (first|(with_reducible refine And.intro ?_ ?_)|(with_reducible refine cm (fun _=>?_) (fun _=>?_))|(with_reducible refine aA (fun _=>?_) (fun _=>?_))|(with_reducible refine be (by kernel_rfl))|simp -dsimp only[go_sem,seval, *,YD,XR]|((with_reducible refine bf ?_);simp -dsimp only[go_sem,seval,YD,XR];first|refine aC (by first|assumption|fail) (by first|exact .inl rfl|exact .inr rfl) ?_|refine aB (by assumption) (by repeat(first|exact ai.refl _|exact ai.nil _|(refine ai.tup ?_)|(refine ai.agg ?_ rfl)|exact trivial|(refine And.intro ?_ ?_))) (by first|exact .inl rfl|exact .inr rfl) ?_)|omega|exact decide_eq_true (by omega)|exact ai.refl _)
   exact bo rfl rfl
 |cons x l=>
  simp only[XA]at hl;refine mj func51 ntmps51 results51 ?_;repeat' (first|(with_reducible refine And.intro ?_ ?_)|(with_reducible refine cm (fun _=>?_) (fun _=>?_))|(with_reducible refine aA (fun _=>?_) (fun _=>?_))|(with_reducible refine be (by kernel_rfl))|simp -dsimp only[go_sem,seval, *,YD,XR]|((with_reducible refine bf ?_);simp -dsimp only[go_sem,seval,YD,XR];first|refine aC (by first|assumption|fail) (by first|exact .inl rfl|exact .inr rfl) ?_|refine aB (by assumption) (by repeat(first|exact ai.refl _|exact ai.nil _|(refine ai.tup ?_)|(refine ai.agg ?_ rfl)|exact trivial|(refine And.intro ?_ ?_))) (by first|exact .inl rfl|exact .inr rfl) ?_)|omega|exact decide_eq_true (by omega)|exact ai.refl _)
  all_goals first|omega|exact bo rfl rfl
theorem Ey (p:Lse→Bool)(l:List Lse)(k g fn:Nat)(caps:List PV)(h:List Chunk)(hk:aG h k= .row 68 5 g (ab (l.map aV)))(GD:an h.length caps=true)(hbh:aH h.length h=true)(hl:l.length≤1000000000)
 (h5:∃ds,cJ (bp (aG h) 5) caps=some ds∧∀x∈l,af prog fn (.agg (aV x)::ds) (.v (.bool (p x))))
 (h6:∀(m:List Lse) (b:Chunk),∃ds,cJ (vw (aG (bw h k (.row 68 5 g (ab (m.map aV)))++[b]))) caps=some ds∧∀x∈l,af prog fn (.agg (aV x)::ds) (.v (.bool (p x)))):
 MSpec prog 128 [.own k g,.clo fn caps] h (.own k (g+1)) (bw h k (.row 68 5 (g+1) (ab ((l.filter fun x=>!p x).map aV)))):=by
 have hlt:k < h.length:=oQ (by rw[hk];simp);obtain⟨ds,Dn,zf⟩:=h5;have nJ:=mW kW p l fn ds hl zf;have hle:h.length≤(bw h k (.row 68 5 (g+1) (ab ((l.filter fun x=>!p x).map aV)))).length:=by rw[qG hlt];exact XB _
 have Ax:an h.length [.own k g,.clo fn caps]=true:=by simp only[an,aq,hlt,GD,decide_true,Yp]
 unfold cv at nJ;cases hf:l.findIdx? p with
 |none=>
  rw[hf]at nJ;replace hf:=Xj hf;refine zN ae ak func128 rfl ntmps128 results128 (by kernel_rfl) hle Ax hbh ?_;repeat' (first|(with_reducible refine And.intro ?_ ?_)|(with_reducible refine cm (fun _=>?_) (fun _=>?_))|(with_reducible refine aA (fun _=>?_) (fun _=>?_))|(with_reducible refine be (by kernel_rfl))|simp -dsimp only[go_sem,seval, *,hk,Dn]|((with_reducible refine bf ?_);simp -dsimp only[go_sem,seval,hk,Dn];first|refine aC (by first|assumption|exact nJ) (by first|exact .inl rfl|exact .inr rfl) ?_|refine aB (by assumption) (by repeat(first|exact ai.refl _|exact ai.nil _|(refine ai.tup ?_)|(refine ai.agg ?_ rfl)|exact trivial|(refine And.intro ?_ ?_))) (by first|exact .inl rfl|exact .inr rfl) ?_)|omega|exact decide_eq_true (by omega)|exact ai.refl _)
  have he:(l.filter fun x=>!p x)=l:=Y0.2 fun x hx=>by
   have:=Yn.1 hf.out x hx;simp[this]
  rw[he];exact fT k g _ _ _ hk (bo rfl rfl)
 |some i0=>
  rw[hf]at nJ;have dP:=yo hf;replace hf:=Xj hf;have Ms:((i0:Int)== -1)=false:=by rw[beq_eq_false_iff_ne];omega
  have cj:=wi i0 (by omega);obtain⟨ga,gb,gc,gd,ge,gf,gg,gi⟩:=P7 hlt;refine zN ae ak func128 rfl ntmps128 results128 (by kernel_rfl) hle Ax hbh ?_;have dP:=Xj dP;repeat' (first|(with_reducible refine And.intro ?_ ?_)|(with_reducible refine cm (fun _=>?_) (fun _=>?_))|(with_reducible refine aA (fun _=>?_) (fun _=>?_))|(with_reducible refine be (by kernel_rfl))|simp -dsimp only[go_sem,seval, *,hk,Dn,Ms,cj]|((with_reducible refine bf ?_);simp -dsimp only[go_sem,seval,hk,Dn,Ms,cj];first|refine aC (by first|assumption|exact nJ) (by first|exact .inl rfl|exact .inr rfl) ?_|refine aB (by assumption) (by repeat(first|exact ai.refl _|exact ai.nil _|(refine ai.tup ?_)|(refine ai.agg ?_ rfl)|exact trivial|(refine And.intro ?_ ?_))) (by first|exact .inl rfl|exact .inr rfl) ?_)|omega|exact decide_eq_true (by omega)|exact ai.refl _)
  refine bL ae ak (fun m e h'=>∃j,j≤l.length∧i0 < j∧m=l.length - j∧e=[(6,.d (.v (.int .i64 j))),(5,.d (.v (.int .i64 (cy p l j).length))),(4,.d (.v (.slice none 0 0))),(1,.clo fn caps),(0,.own k g)]∧h'=bw h k (.row 68 5 g (ab ((gW p l j).map aV)))) (l.length - (i0+1)) _ _ ⟨i0+1,dP.out.1,by omega,rfl,rfl,rfl⟩ ?_ ?_
  ·rw[dP.out.2.1,dP.out.2.2];refine ec [] (by rw[gb];exact XB _) (by rw[sj h k _ hk hlt,Yv]) ⟨rfl,rfl,rfl,rfl,rfl,trivial⟩ (by rw[gb];simp only[eh,aq,hlt,GD,decide_true,Yp]) (by rw[gb];exact gu _ _ _ _ hbh (by simp only[aQ,az]) hlt)
  ·rintro m e h' ⟨j,hj,hij,rfl,rfl,rfl⟩ C hC;have uw:=uk p l j;have li:=FF p l j;by_cases L8:j < l.length
   ·obtain⟨x,hx⟩:∃x,l[j]? =some x:=⟨_,Xk L8⟩;have Do:(gW p l j)[j]? =some x:=by rw[FG p l j j uw.1];exact hx
    obtain⟨y,sR⟩:∃y,(gW p l j)[(cy p l j).length]? =some y:=⟨_,Xk (by omega)⟩;have ic:(j:Int) < (l.length:Int):=by omega
    have cA:=wi j (by omega);have lT:IntKind.i64.wrap (((cy p l j).length:Int)+1)=(((cy p l j).length+1:Nat):Int):=by rw[IntKind.wrap_i64];omega
    have iV:(cy p l j).length < l.length:=by omega
    obtain⟨ds2,OQ,UQ⟩:=h6 (gW p l j) (.box 68 ((aV x).map .d));have jC:=UQ x (Xl hx);have hx:=Xj hx;have bY:=bO aV (gW p l j) (cy p l j).length x;simp only[aV,Xm,Xu]at OQ jC bY;repeat' (first|(with_reducible refine And.intro ?_ ?_)|(with_reducible refine cm (fun _=>?_) (fun _=>?_))|(with_reducible refine aA (fun _=>?_) (fun _=>?_))|(with_reducible refine be (by kernel_rfl))|simp -dsimp only[go_sem,seval, *,aV,Do,sR,ic,cA,lT,OQ,li,gb]|((with_reducible refine bf ?_);simp -dsimp only[go_sem,seval,aV,Do,sR,ic,cA,lT,OQ,li,gb];first|refine aC (by first|assumption|exact jC) (by first|exact .inl rfl|exact .inr rfl) ?_|refine aB (by assumption) (by repeat(first|exact ai.refl _|exact ai.nil _|(refine ai.tup ?_)|(refine ai.agg ?_ rfl)|exact trivial|(refine And.intro ?_ ?_))) (by first|exact .inl rfl|exact .inr rfl) ?_)|omega|exact decide_eq_true (by omega)|exact ai.refl _)
    ·rename_i hp;obtain⟨q1,q2⟩:=Pf hx.out hp;refine hC _ _ _ _ _ (by omega) ⟨j+1,by omega,by omega,rfl,rfl,rfl⟩ ?_;rw[q1,q2];exact ec _ (by rw[gb];exact XB _) rfl ⟨rfl,rfl,rfl,rfl,rfl,trivial⟩ (by rw[gb];simp only[eh,aq,hlt,GD,decide_true,Yp,YA]) (by rw[gb];exact gu _ _ _ _ hbh (by simp only[aQ,az]) hlt)
    ·rename_i hp;obtain⟨q1,q2⟩:=Pg hx.out hp;refine hC _ _ _ _ _ (by omega) ⟨j+1,by omega,by omega,rfl,rfl,rfl⟩ ?_;rw[q1,q2];exact ec _ (by rw[gb];exact XB _) rfl ⟨rfl,rfl,rfl,rfl,rfl,trivial⟩ (by rw[gb];simp only[eh,aq,hlt,GD,decide_true,Yp,YA]) (by rw[gb];exact gu _ _ _ _ hbh (by simp only[aQ,az]) hlt)
   ·obtain rfl:j=l.length:=by omega
    have hm0:gW p l l.length≠[]:=fun e=>by rw[e]at li;simp at li;omega
    have Uv:¬ab ((gW p l l.length).map aV)=[]:=by simpa[ab]using hm0
    have Gu:∀z:List PV,(ay (ab ((gW p l l.length).map aV)) (cy p l l.length).length (XV (l.length - (cy p l l.length).length) z)).length=l.length:=fun z=>by
     rw[bj (by simp[aF,li];omega)];simp[aF,li]
    have QT:∀z:List PV,¬ay (ab ((gW p l l.length).map aV)) (cy p l l.length).length (XV (l.length - (cy p l l.length).length) z)=[]:=fun z e=>by
     have:=Gu z;rw[e]at this;simp at this;omega
    repeat' (first|(with_reducible refine And.intro ?_ ?_)|(with_reducible refine cm (fun _=>?_) (fun _=>?_))|(with_reducible refine aA (fun _=>?_) (fun _=>?_))|(with_reducible refine be (by kernel_rfl))|simp -dsimp only[go_sem,seval, *,aV,YN,li,gb]|((with_reducible refine bf ?_);simp -dsimp only[go_sem,seval,aV,YN,li,gb];first|refine aC (by first|assumption|fail) (by first|exact .inl rfl|exact .inr rfl) ?_|refine aB (by assumption) (by repeat(first|exact ai.refl _|exact ai.nil _|(refine ai.tup ?_)|(refine ai.agg ?_ rfl)|exact trivial|(refine And.intro ?_ ?_))) (by first|exact .inl rfl|exact .inr rfl) ?_)|omega|exact decide_eq_true (by omega)|exact ai.refl _)
    have rJ:=yq p l;rw[←rJ,ZH];exact yr hlt (by simp[li];omega) (by simpa using hm0) (by simp[li])
theorem yL (p:Pol→Bool)(l:List Pol)(k g fn:Nat)(caps:List PV)(h:List Chunk)(hk:aG h k= .row 62 9 g (ab (l.map ah)))(GD:an h.length caps=true)(hbh:aH h.length h=true)(hl:l.length≤1000000000)
 (h5:∃ds,cJ (bp (aG h) 5) caps=some ds∧∀x∈l,af prog fn (.agg (ah x)::ds) (.v (.bool (p x))))
 (h6:∀(m:List Pol) (b:Chunk),∃ds,cJ (vw (aG (bw h k (.row 62 9 g (ab (m.map ah)))++[b]))) caps=some ds∧∀x∈l,af prog fn (.agg (ah x)::ds) (.v (.bool (p x)))):
 MSpec prog 126 [.own k g,.clo fn caps] h (.own k (g+1)) (bw h k (.row 62 9 (g+1) (ab ((l.filter fun x=>!p x).map ah)))):=by
 have hlt:k < h.length:=oQ (by rw[hk];simp);obtain⟨ds,Dn,zf⟩:=h5;have nJ:=yD kX p l fn ds hl zf;have hle:h.length≤(bw h k (.row 62 9 (g+1) (ab ((l.filter fun x=>!p x).map ah)))).length:=by rw[qG hlt];exact XB _
 have Ax:an h.length [.own k g,.clo fn caps]=true:=by simp only[an,aq,hlt,GD,decide_true,Yp]
 unfold cv at nJ;cases hf:l.findIdx? p with
 |none=>
  rw[hf]at nJ;replace hf:=Xj hf;refine zN ae ak func126 rfl ntmps126 results126 (by kernel_rfl) hle Ax hbh ?_;repeat' (first|(with_reducible refine And.intro ?_ ?_)|(with_reducible refine cm (fun _=>?_) (fun _=>?_))|(with_reducible refine aA (fun _=>?_) (fun _=>?_))|(with_reducible refine be (by kernel_rfl))|simp -dsimp only[go_sem,seval, *,hk,Dn]|((with_reducible refine bf ?_);simp -dsimp only[go_sem,seval,hk,Dn];first|refine aC (by first|assumption|exact nJ) (by first|exact .inl rfl|exact .inr rfl) ?_|refine aB (by assumption) (by repeat(first|exact ai.refl _|exact ai.nil _|(refine ai.tup ?_)|(refine ai.agg ?_ rfl)|exact trivial|(refine And.intro ?_ ?_))) (by first|exact .inl rfl|exact .inr rfl) ?_)|omega|exact decide_eq_true (by omega)|exact ai.refl _)
  have he:(l.filter fun x=>!p x)=l:=Y0.2 fun x hx=>by
   have:=Yn.1 hf.out x hx;simp[this]
  rw[he];exact fT k g _ _ _ hk (bo rfl rfl)
 |some i0=>
  rw[hf]at nJ;have dP:=yo hf;replace hf:=Xj hf;have Ms:((i0:Int)== -1)=false:=by rw[beq_eq_false_iff_ne];omega
  have cj:=wi i0 (by omega);obtain⟨ga,gb,gc,gd,ge,gf,gg,gi⟩:=P7 hlt;refine zN ae ak func126 rfl ntmps126 results126 (by kernel_rfl) hle Ax hbh ?_;have dP:=Xj dP;repeat' (first|(with_reducible refine And.intro ?_ ?_)|(with_reducible refine cm (fun _=>?_) (fun _=>?_))|(with_reducible refine aA (fun _=>?_) (fun _=>?_))|(with_reducible refine be (by kernel_rfl))|simp -dsimp only[go_sem,seval, *,hk,Dn,Ms,cj]|((with_reducible refine bf ?_);simp -dsimp only[go_sem,seval,hk,Dn,Ms,cj];first|refine aC (by first|assumption|exact nJ) (by first|exact .inl rfl|exact .inr rfl) ?_|refine aB (by assumption) (by repeat(first|exact ai.refl _|exact ai.nil _|(refine ai.tup ?_)|(refine ai.agg ?_ rfl)|exact trivial|(refine And.intro ?_ ?_))) (by first|exact .inl rfl|exact .inr rfl) ?_)|omega|exact decide_eq_true (by omega)|exact ai.refl _)
  refine bL ae ak (fun m e h'=>∃j,j≤l.length∧i0 < j∧m=l.length - j∧e=[(6,.d (.v (.int .i64 j))),(5,.d (.v (.int .i64 (cy p l j).length))),(4,.d (.v (.slice none 0 0))),(1,.clo fn caps),(0,.own k g)]∧h'=bw h k (.row 62 9 g (ab ((gW p l j).map ah)))) (l.length - (i0+1)) _ _ ⟨i0+1,dP.out.1,by omega,rfl,rfl,rfl⟩ ?_ ?_
  ·rw[dP.out.2.1,dP.out.2.2];refine ec [] (by rw[gb];exact XB _) (by rw[sj h k _ hk hlt,Yv]) ⟨rfl,rfl,rfl,rfl,rfl,trivial⟩ (by rw[gb];simp only[eh,aq,hlt,GD,decide_true,Yp]) (by rw[gb];exact gu _ _ _ _ hbh (by simp only[aQ,az]) hlt)
  ·rintro m e h' ⟨j,hj,hij,rfl,rfl,rfl⟩ C hC;have uw:=uk p l j;have li:=FF p l j;by_cases L8:j < l.length
   ·obtain⟨x,hx⟩:∃x,l[j]? =some x:=⟨_,Xk L8⟩;have Do:(gW p l j)[j]? =some x:=by rw[FG p l j j uw.1];exact hx
    obtain⟨y,sR⟩:∃y,(gW p l j)[(cy p l j).length]? =some y:=⟨_,Xk (by omega)⟩;have ic:(j:Int) < (l.length:Int):=by omega
    have cA:=wi j (by omega);have lT:IntKind.i64.wrap (((cy p l j).length:Int)+1)=(((cy p l j).length+1:Nat):Int):=by rw[IntKind.wrap_i64];omega
    have iV:(cy p l j).length < l.length:=by omega
    obtain⟨ds2,OQ,UQ⟩:=h6 (gW p l j) (.box 62 ((ah x).map .d));have jC:=UQ x (Xl hx);have hx:=Xj hx;have bY:=bO ah (gW p l j) (cy p l j).length x;simp only[ah,Xm,Xu]at OQ jC bY;repeat' (first|(with_reducible refine And.intro ?_ ?_)|(with_reducible refine cm (fun _=>?_) (fun _=>?_))|(with_reducible refine aA (fun _=>?_) (fun _=>?_))|(with_reducible refine be (by kernel_rfl))|simp -dsimp only[go_sem,seval, *,ah,Do,sR,ic,cA,lT,OQ,li,gb]|((with_reducible refine bf ?_);simp -dsimp only[go_sem,seval,ah,Do,sR,ic,cA,lT,OQ,li,gb];first|refine aC (by first|assumption|exact jC) (by first|exact .inl rfl|exact .inr rfl) ?_|refine aB (by assumption) (by repeat(first|exact ai.refl _|exact ai.nil _|(refine ai.tup ?_)|(refine ai.agg ?_ rfl)|exact trivial|(refine And.intro ?_ ?_))) (by first|exact .inl rfl|exact .inr rfl) ?_)|omega|exact decide_eq_true (by omega)|exact ai.refl _)
    ·rename_i hp;obtain⟨q1,q2⟩:=Pf hx.out hp;refine hC _ _ _ _ _ (by omega) ⟨j+1,by omega,by omega,rfl,rfl,rfl⟩ ?_;rw[q1,q2];exact ec _ (by rw[gb];exact XB _) rfl ⟨rfl,rfl,rfl,rfl,rfl,trivial⟩ (by rw[gb];simp only[eh,aq,hlt,GD,decide_true,Yp,YA]) (by rw[gb];exact gu _ _ _ _ hbh (by simp only[aQ,az]) hlt)
    ·rename_i hp;obtain⟨q1,q2⟩:=Pg hx.out hp;refine hC _ _ _ _ _ (by omega) ⟨j+1,by omega,by omega,rfl,rfl,rfl⟩ ?_;rw[q1,q2];exact ec _ (by rw[gb];exact XB _) rfl ⟨rfl,rfl,rfl,rfl,rfl,trivial⟩ (by rw[gb];simp only[eh,aq,hlt,GD,decide_true,Yp,YA]) (by rw[gb];exact gu _ _ _ _ hbh (by simp only[aQ,az]) hlt)
   ·obtain rfl:j=l.length:=by omega
    have hm0:gW p l l.length≠[]:=fun e=>by rw[e]at li;simp at li;omega
    have Uv:¬ab ((gW p l l.length).map ah)=[]:=by simpa[ab]using hm0
    have Gu:∀z:List PV,(ay (ab ((gW p l l.length).map ah)) (cy p l l.length).length (XV (l.length - (cy p l l.length).length) z)).length=l.length:=fun z=>by
     rw[bj (by simp[aF,li];omega)];simp[aF,li]
    have QT:∀z:List PV,¬ay (ab ((gW p l l.length).map ah)) (cy p l l.length).length (XV (l.length - (cy p l l.length).length) z)=[]:=fun z e=>by
     have:=Gu z;rw[e]at this;simp at this;omega
    repeat' (first|(with_reducible refine And.intro ?_ ?_)|(with_reducible refine cm (fun _=>?_) (fun _=>?_))|(with_reducible refine aA (fun _=>?_) (fun _=>?_))|(with_reducible refine be (by kernel_rfl))|simp -dsimp only[go_sem,seval, *,ah,YN,li,gb]|((with_reducible refine bf ?_);simp -dsimp only[go_sem,seval,ah,YN,li,gb];first|refine aC (by first|assumption|fail) (by first|exact .inl rfl|exact .inr rfl) ?_|refine aB (by assumption) (by repeat(first|exact ai.refl _|exact ai.nil _|(refine ai.tup ?_)|(refine ai.agg ?_ rfl)|exact trivial|(refine And.intro ?_ ?_))) (by first|exact .inl rfl|exact .inr rfl) ?_)|omega|exact decide_eq_true (by omega)|exact ai.refl _)
    have rJ:=yq p l;rw[←rJ,ZH];exact yr hlt (by simp[li];omega) (by simpa using hm0) (by simp[li])
def bK (b:Bok)(id:Int):Option Pol:=b.pools.find? fun p=>p.id==id
def mZ (l:List Pol):Prop:=l.Pairwise fun a b=>a.id < b.id
theorem HS {α:Type}{key:α→Int}{t:Int}{l:List α}(hs:l.Pairwise fun a b=>key a < key b):(qN key t l=true∧∃p,l[i8 key t l]? =some p∧l.find? (fun p=>key p==t)=some p∧key p=t)∨(qN key t l=false∧l.find? (fun p=>key p==t)=none):=by
 have xI:∀q (hq:q < l.length),q < i8 key t l→key l[q] < t:=by
  intro q hq hlt;have:=List.not_of_lt_findIdx hlt;simp at this;omega
 cases hx:l[i8 key t l]? with
 |none=>
  right;have hb:qN key t l=false:=by unfold qN;rw[hx]
  refine⟨hb,?_⟩;rw[Yq];intro y hy;obtain⟨q,hq,rfl⟩:=X0.1 hy;have bT:l.length≤i8 key t l:=by
   rcases XP (i8 key t l) l.length with h|h
   ·rw[Xk h]at hx;cases hx
   ·exact h
  have:=xI q hq (by omega);simp;omega
 |some p=>
  obtain⟨hlt,hp⟩:=Xn.1 hx;have hge:t≤key p:=by
   have:=List.findIdx_getElem (xs:=l) (p:=fun x=>decide (t≤key x)) (w:=hlt);rw[show l[List.findIdx (fun x=>decide (t≤key x)) l]'hlt=p from hp]at this;simpa using this
  by_cases he:key p=t
  ·left;have hb:qN key t l=true:=by unfold qN;rw[hx];simpa using he
   refine⟨hb,p,rfl,?_,he⟩;have iG:p∈l:=Xl hx;cases hf:l.find? (fun p=>key p==t)with
   |none=>exact absurd he (by simpa using Yq.1 hf p iG)
   |some q=>
    have hq1:key q=t:=by simpa using Zh hf
    have po:=YF hf;obtain⟨i,hi,rfl⟩:=X0.1 po;rcases Zb i (i8 key t l)with h|h|h
    ·have:=xI i hi h;omega
    ·subst h;rw[Xk hlt]at hx;rw[XX.inj hx]
    ·have:=XF.1 hs _ i hlt hi h;rw[hp]at this;omega
  ·right;have hb:qN key t l=false:=by unfold qN;rw[hx];simpa using he
   refine⟨hb,?_⟩;rw[Yq];intro y hy;obtain⟨i,hi,rfl⟩:=X0.1 hy;rcases Zb i (i8 key t l)with h|h|h
   ·have:=xI i hi h;simp;omega
   ·subst h;rw[hp];simpa using he
   ·have:=XF.1 hs _ i hlt hi h;rw[hp]at this;simp;omega
theorem Ez (p:Pol)(t:Int):af prog 198 [.agg (ah p),.v (.int .i64 t)] (.v (.int .i64 (ep p.id t))):=by
 refine pj func198 ntmps198 results198 ?_;have z1z:=mg p.id t;exact aZ;all_goals exact ai.refl _
def ow (b:Bok)(id:Int):D:=match bK b id with|some p=> .tup [.ept (ah p),.v (.bool true)]|none=> .tup [.v (.pointer none),.v (.bool false)]
theorem m5 (b:Bok)(id:Int)(hb:b.pools.length≤1000000000)(hs:mZ b.pools):af prog 116 [.ept (aS b),.v (.int .i64 id)] (ow b id):=by
 have OY:=sy kX (fun p=>p.id) b.pools id 198 [] hb hs (fun p _=>Ez p id);unfold ow bK;rcases HS (t:=id) hs with⟨h1,p,h2,h3,-⟩|⟨h1,h2⟩
 ·rw[h1]at OY;rw[h3];refine pj func116 ntmps116 results116 ?_;exact aZ;all_goals exact ai.refl _
 ·rw[h1]at OY;rw[h2];refine pj func116 ntmps116 results116 ?_;exact aZ;all_goals exact ai.refl _
theorem mw (p q:Pfx):([p.at_,p.len]==[q.at_,q.len])=decide (p=q):=by
 rw[Yi];cases p;cases q;simp
def eL (b:Bok)(p:Pol)(l:Lse):Bool:=
 if l.kind==1 then dR l.owner&&(l.till==0)
 else if l.kind==2 then (match bK b l.owner with|some q=>(q.up==p.id)&&(decide (q.root=l.at_)&&(l.till==0))|none=>false)
 else if l.kind==3 then (l.owner==0)&&(decide (l.till>b.tick)&&decide (l.till≤b.tick+1024))else false
theorem NV (b:Bok)(p:Pol)(l:Lse)(hb:b.pools.length≤1000000000)(hs:mZ b.pools)(ht:0≤b.tick∧b.tick≤1073741824):af prog 94 [.ept (aS b),.ept (ah p),.agg (aV l)] (.v (.bool (eL b p l))):=by
 unfold eL;cases h1:l.kind==1 with
 |true=>
  rw[if_pos rfl];cases h2:dR l.owner with
  |true=>
   have hi:=yK l.owner;rw[h2]at hi;refine pj func94 ntmps94 results94 ?_;exact aZ;all_goals exact ai.refl _
  |false=>
   have hi:=yK l.owner;rw[h2]at hi;refine pj func94 ntmps94 results94 ?_;exact aZ;all_goals exact ai.refl _
 |false=>
  rw[if_neg (by simp)];cases h2:l.kind==2 with
  |true=>
   rw[if_pos rfl];have hf:=m5 b l.owner hb hs;unfold ow at hf;cases hq:bK b l.owner with
   |none=>
    rw[hq]at hf;refine pj func94 ntmps94 results94 ?_;exact aZ;all_goals exact ai.refl _
   |some q=>
    rw[hq]at hf;have he:=mw q.root l.at_;cases h3:q.up==p.id<;>cases h4:decide (q.root=l.at_)<;>rw[h4]at he;all_goals
     refine pj func94 ntmps94 results94 ?_;exact aZ;all_goals simp only[h3,h4,Yr,Bool.false_and,Bool.and_false]
     all_goals exact ai.refl _
  |false=>
   rw[if_neg (by simp)];have hw:IntKind.i64.wrap (b.tick+1024)=b.tick+1024:=by rw[IntKind.wrap_i64];omega
   cases h3:l.kind==3 with
   |false=>
    rw[if_neg (by simp)];refine pj func94 ntmps94 results94 ?_;exact aZ;all_goals exact ai.refl _
   |true=>
    rw[if_pos rfl];cases h4:l.owner==0<;>cases h5:decide (l.till>b.tick);all_goals
     refine pj func94 ntmps94 results94 ?_;exact aZ;all_goals exact ai.refl _
def lm (id:Int)(l:Lse):Bool:=(l.kind==2)&&(l.owner==id)
theorem KC (l:Lse)(p:Pol):af prog 178 [.agg (aV l),.ept [.ept (ah p)]] (.v (.bool (lm p.id l))):=by
 unfold lm;cases h1:l.kind==2;all_goals
  refine pj func178 ntmps178 results178 ?_;exact aZ;all_goals exact ai.refl _
def jM (b:Bok):Nat→Pol→Bool
 |0,p=>p.up==0
 |n+1,p=>(p.up==0)||(match bK b p.up with|some q=>q.leases.any (lm p.id)&&jM b n q|none=>false)
theorem HT {b:Bok}{p:Pol}(n:Nat)(h:(p.up==0)=true):jM b n p=true:=by cases n<;>simp[jM,h]
theorem NW (b:Bok)(p:Pol)(hb:b.pools.length≤8)(hs:mZ b.pools)(hl:∀q∈b.pools,q.leases.length≤1000000000):af prog 91 [.ept (aS b),.ept (ah p)] (.v (.bool (jM b b.pools.length p))):=by
 refine pj func91 ntmps91 results91 ?_;refine am ?_<;>intros;refine bL ae ak (fun m e h=>∃(k:Nat) (q:Pol),k≤b.pools.length∧jM b b.pools.length p=jM b (b.pools.length - k) q∧m=b.pools.length - k∧e=[(12,.d (.v (.int .i64 k))),(11,.d (.v (.int .i64 b.pools.length))),(4,.d (.v (.bool false))),(3,.ptr 0 0),(0,.d (.ept (aS b)))]∧
  h=[.box 147 [.d (.ept (ah q))]]) _ _ _ ⟨0,p,XD _,rfl,rfl,rfl,rfl⟩ (wf) ?_
 rintro m e h ⟨k,q,hk,gj,hm,rfl,rfl⟩ CL mJ;by_cases hlt:k < b.pools.length
 ·have en:(k:Int) < (b.pools.length:Int):=by omega
  have cM:=wi k (by omega);obtain⟨j,hj⟩:∃j,b.pools.length - k=j+1:=⟨b.pools.length - k - 1,by omega⟩;rw[hj]at gj;replace gj:=Xj gj;replace hj:=Xj hj;replace hm:=Xj hm;cases h0:q.up==0 with
  |true=>
   refine am ?_<;>intros;rw[gj.out,HT _ h0];exact ai.refl _
  |false=>
   have hf:=m5 b q.up (by omega) hs;unfold ow at hf;cases hq:bK b q.up with
   |none=>
    rw[hq]at hf;refine am ?_<;>intros;rw[gj.out];simp only[jM,h0,hq,ZT];exact ai.refl _
   |some r=>
    rw[hq]at hf;have hr:r∈b.pools:=YF hq;have nl:=p4 kW (lm q.id) r.leases 178 [.ept [.ept (ah q)]] (hl r hr) (fun x _=>KC x q);cases ha:r.leases.any (lm q.id)with
    |false=>
     rw[ha]at nl;refine am ?_<;>intros;rw[gj.out];simp only[jM,h0,hq,ha,ZT,Bool.false_and];exact ai.refl _
    |true=>
     rw[ha]at nl;refine am ?_<;>intros;refine mJ _ _ _ _ _ ?_ ⟨k+1,r,hlt,?_,rfl,rfl,rfl⟩ (wf)
     ·have:=hm.out;omega
     ·rw[gj.out];simp only[jM,h0,hq,ha,ZT,Yr];congr 1;have:=hj.out;omega
 ·obtain rfl:k=b.pools.length:=by omega
  rw[YG]at gj;replace gj:=Xj gj;refine am ?_<;>intros;rw[gj.out];exact ai.refl _
theorem KD (b:Bok)(p:Pol)(l:Lse)(hb:b.pools.length≤1000000000)(hs:mZ b.pools)(ht:0≤b.tick∧b.tick≤1073741824):af prog 93 [.agg (aV l),.ept (aS b),.ept [.ept (ah p)]] (.v (.bool (!eL b p l))):=by
 have hl:=NV b p l hb hs ht;refine pj func93 ntmps93 results93 ?_;exact aZ
theorem KE (p:Pol)(q:Pfx):af prog 96 [.agg (aN q),.ept [.ept (ah p)]] (.v (.bool (p.root.meets q))):=by
 have hm:=oU p.root q;refine pj func96 ntmps96 results96 ?_;exact aZ
def d8:Int→List Pol→Bool
 |_,[]=>true
 |last,p::l=>(dR p.id&&(decide (last < p.id)&&((gY p.root (dt p)==0)&&fD p.rule p.root.len)))&&d8 p.id l
def dx (b:Bok):List Pol→List Pfx→Bool
 |[],_=>true
 |p::l,roots=>(jM b b.pools.length p&&p.leases.all (eL b p))&&(if p.up==0 then !(roots.any p.root.meets)&&dx b l (roots++[p.root])else dx b l roots)
def a9 (b:Bok):Int:=if b.pools.length>8 then 2 else if b.tick < 0∨b.tick>1073741824 then 1 else if d8 0 b.pools&&dx b b.pools []then 0 else 1
theorem kl:∀(l:List Pol) (last:Int),d8 last l=true→mZ l∧∀p∈l,last < p.id
 |[],_,_=>⟨List.Pairwise.nil,fun p h=>by simp at h⟩
 |p::l,last,h=>by
  simp only[d8,Xy,decide_eq_true_eq]at h;obtain⟨h1,h2⟩:=kl l p.id h.2;refine⟨YC.2 ⟨fun q hq=>h2 q hq,h1⟩,fun q hq=>?_⟩;rcases X7.1 hq with rfl|hq
  ·exact h.1.2.1
  ·have:=h2 q hq;have:=h.1.2.1;omega
theorem lF:∀(l:List Pol) (last:Int),d8 last l=true→∀p∈l,dR p.id=true∧gY p.root (dt p)=0∧fD p.rule p.root.len=true
 |p::l,last,h,q,hq=>by
  simp only[d8,Xy,decide_eq_true_eq,beq_iff_eq]at h;rcases X7.1 hq with rfl|hq
  ·exact⟨h.1.1,h.1.2.2.1,h.1.2.2.2⟩
  ·exact lF l p.id h.2 q hq
theorem jo {α:Type}{l:List α}{k:Nat}{x:α}(h:l[k]? =some x):l.drop k=x::l.drop (k+1):=by
 obtain⟨hk,rfl⟩:=Xn.1 h;exact YQ hk
theorem my (b:Bok)(hz:∀p∈b.pools,p.leases.length≤3518437208882):af prog 32 [.agg (aS b)] (.v (.int .i64 (a9 b))):=by
 by_cases h8:b.pools.length>8
 ·have UR:decide ((b.pools.length:Int)>8)=true:=by simp;omega
  have hr:a9 b=2:=by simp[a9,h8]
  rw[hr];refine pj func32 ntmps32 results32 ?_;exact aZ
 ·have UR:decide ((b.pools.length:Int)>8)=false:=by simp;omega
  by_cases gU:b.tick < 0∨b.tick>1073741824
  ·have hr:a9 b=1:=by simp[a9,h8,gU]
   rw[hr];rcases gU with h|h
   ·have h1:decide (b.tick < 0)=true:=by simpa using h
    refine pj func32 ntmps32 results32 ?_;exact aZ
   ·have h1:decide (b.tick < 0)=false:=by simp;omega
    have h2:decide (b.tick>1073741824)=true:=by simpa using h
    refine pj func32 ntmps32 results32 ?_;exact aZ
  ·have h1:decide (b.tick < 0)=false:=by simp;omega
   have h2:decide (b.tick>1073741824)=false:=by simp;omega
   have ht:0≤b.tick∧b.tick≤1073741824:=by omega
   have hr:a9 b=if d8 0 b.pools&&dx b b.pools []then 0 else 1:=by simp only[a9,h8,gU,if_false]
   rw[hr];replace hr:=Xj hr;replace ht:=Xj ht;refine pj func32 ntmps32 results32 ?_;refine am ?_<;>intros;refine bL ae ak (fun m e h=>∃(k:Nat) (last:Int),k≤b.pools.length∧d8 0 b.pools=d8 last (b.pools.drop k)∧m=b.pools.length - k∧e=[(24,.d (.v (.int .i64 k))),(23,.d (.v (.int .i64 b.pools.length))),(3,.d (.v (.int .i64 last))),(2,.d (.v (.int .i64 0))),(1,.ptr 0 0)]∧
    h=[.box 24 ((aS b).map .d)]) _ _ _ ⟨0,0,XD _,rfl,rfl,rfl,rfl⟩ (wf) ?_
   rintro m e h ⟨k,last,hk,gj,hm,rfl,rfl⟩ C hC;by_cases hlt:k < b.pools.length
   ·have en:(k:Int) < (b.pools.length:Int):=by omega
    have cM:=wi k (by omega);obtain⟨p,hp⟩:∃p,b.pools[k]? =some p:=⟨_,Xk hlt⟩;have oL:p∈b.pools:=Xl hp;rw[jo hp]at gj;simp only[d8]at gj;have hi:=yK p.id;have gU:=F4 p (hz p oL);have OZ:=HR p.root (dt p);have wS:=Ex p.rule p.root;replace gj:=Xj gj;replace hm:=Xj hm;repeat' (first|(with_reducible refine And.intro ?_ ?_)|(with_reducible refine cm (fun _=>?_) (fun _=>?_))|(with_reducible refine aA (fun _=>?_) (fun _=>?_))|(with_reducible refine be (by kernel_rfl))|simp -dsimp only[go_sem,seval, *,aS,ah,en,cM,hp]|((with_reducible refine bf ?_);simp -dsimp only[go_sem,seval,aS,ah,en,cM,hp];first|refine aC (by first|assumption|exact hi|exact gU|exact OZ|exact wS) (by first|exact .inl rfl|exact .inr rfl) ?_|(refine aB (by assumption) ?_ ?_ ?_;(solve|(repeat(first|exact ai.refl _|exact ai.nil _|(refine ai.tup ?_)|(refine ai.agg ?_ rfl)|exact trivial|(refine And.intro ?_ ?_))));(solve|exact .inl rfl|exact .inr rfl)))|fail|omega|exact decide_eq_true (by omega)|exact ai.refl _)
    case' pos.refine_1.refine_2.refine_2.refine_2.refine_1=>
     rename_i q1 q2 q3 q4;refine hC _ _ _ _ _ ?_ ⟨k+1,p.id,hlt,?_,rfl,rfl,rfl⟩ (wf)
     ·have:=hm.out;omega
     ·rw[gj.out];have e1:decide (last < p.id)=true:=by simpa using q2
      have e2:(gY p.root (dt p)==0)=true:=by simpa using q3
      rw[q1,e1,e2,q4];rfl
    all_goals
     have hf:d8 0 b.pools=false:=by
      rw[gj.out];clear hC hi gU OZ wS hz gj hm hr ht;grind
     rw[hf];exact ai.refl _
   ·obtain rfl:k=b.pools.length:=by omega
    rw[Y7]at gj;have hf:d8 0 b.pools=true:=by rw[gj];rfl
    obtain⟨Mt,-⟩:=kl _ _ hf;have fR:=lF _ _ hf;have nG:∀p∈b.pools,p.leases.length≤32:=fun p hp=>by
     have:=(fR p hp).2.1;unfold gY at this;split at this
     ·cases this
     ·rename_i h;simpa[dt]using h
    rw[hf];replace hf:=Xj hf;replace gj:=Xj gj;replace hm:=Xj hm;replace fR:=Xj fR;refine am ?_<;>intros;refine bL ae ak (fun m e h=>∃(k g:Nat) (roots:List Pfx),k≤b.pools.length∧dx b b.pools []=dx b (b.pools.drop k) roots∧roots.length≤k∧m=b.pools.length - k∧e=[(71,.d (.v (.int .i64 k))),(70,.d (.v (.int .i64 b.pools.length))),(6,.own 1 g),(2,.d (.v (.int .i64 0))),(1,.ptr 0 0)]∧
     h=[.box 24 ((aS b).map .d),.row 32 2 g (ab (roots.map aN))]) _ _ _ ⟨0,0,[],XD _,rfl,XD _,rfl,rfl,rfl⟩ ((cS (XD _) 6 32 2 rfl).trans (wf)) ?_
    rintro m e h ⟨k,g,roots,hk,uf,za,hm,rfl,rfl⟩ C hC;by_cases hlt:k < b.pools.length
    ·have en:(k:Int) < (b.pools.length:Int):=by omega
     have cM:=wi k (by omega);obtain⟨p,hp⟩:∃p,b.pools[k]? =some p:=⟨_,Xk hlt⟩;have oL:p∈b.pools:=Xl hp;rw[jo hp]at uf;simp only[dx]at uf;have gE:=NW b p (by omega) Mt (fun q hq=>by have:=nG q hq;omega);have fS:=p4 kW (fun l=>!eL b p l) p.leases 93 [.ept (aS b),.ept [.ept (ah p)]] (by have:=nG p oL;omega) (fun l _=>KD b p l (by omega) Mt ht.out);have US:=tt BC p.root.meets roots 96 [.ept [.ept (ah p)]] (by omega) (fun q _=>KE p q);have rI:(roots.length+1)*16≤140737488355328:=by omega
     replace uf:=Xj uf;replace hm:=Xj hm;have bP:p.leases.all (eL b p)=!(p.leases.any fun l=>!eL b p l):=by simp[List.all_eq_not_any_not]
     replace bP:=Xj bP;repeat' (first|(with_reducible refine And.intro ?_ ?_)|(with_reducible refine cm (fun _=>?_) (fun _=>?_))|(with_reducible refine aA (fun _=>?_) (fun _=>?_))|(with_reducible refine be (by kernel_rfl))|simp -dsimp only[go_sem,seval, *,aS,ah,en,cM,hp]|((with_reducible refine bf ?_);simp -dsimp only[go_sem,seval,aS,ah,en,cM,hp];first|refine aC (by first|assumption|exact gE|exact fS|exact US) (by first|exact .inl rfl|exact .inr rfl) ?_|(refine aB (by assumption) ?_ ?_ ?_;(solve|(repeat(first|exact ai.refl _|exact ai.nil _|(refine ai.tup ?_)|(refine ai.agg ?_ rfl)|exact trivial|(refine And.intro ?_ ?_))));(solve|exact .inl rfl|exact .inr rfl)))|fail|omega|exact decide_eq_true (by omega)|exact ai.refl _)
     case' pos.refine_1.refine_2.refine_1.refine_2=>
      rename_i q1 q2 q3 q4;refine hC _ _ _ _ _ ?_ ⟨k+1,g+1,roots++[p.root],hlt,?_,by simp;omega,rfl,rfl,rfl⟩ (wf (hh:=(by simp only[aS,Xo,Xm,Xu,aN];rfl)))
      ·have:=hm.out;omega
      ·rw[uf.out,q1,bP.out,q2,if_pos q3,q4];rfl
     case' pos.refine_1.refine_2.refine_2=>
      rename_i q1 q2 q3;refine hC _ _ _ _ _ ?_ ⟨k+1,g,roots,hlt,?_,by omega,rfl,rfl,rfl⟩ (wf)
      ·have:=hm.out;omega
      ·rw[uf.out,q1,bP.out,q2,if_neg (by rw[q3];simp)];rfl
     all_goals
      have AH:dx b b.pools []=false:=by
       rw[uf.out,bP.out];clear hC gE fS US hz uf hm hr ht bP;grind
      rw[AH];exact ai.refl _
    ·obtain rfl:k=b.pools.length:=by omega
     rw[Y7]at uf;replace uf:=Xj uf;refine am ?_<;>intros;rw[uf.out];exact ai.refl _
end Go.Proofs.YtmicljipaiohkaaGreat
