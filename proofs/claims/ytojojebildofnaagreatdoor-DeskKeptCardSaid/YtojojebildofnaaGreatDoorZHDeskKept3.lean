/- Texts of this work, joined. -/
import Derived.Test.YtojojebildofnaaGreatDoorZHDeskKept2
import Derived.Shelf.Slices.SearchI
import Derived.IntWalk
import Derived.RangeFuncNested
import Derived.RangeFuncBound
import Derived.RangeFuncCalls
import Derived.RangeFuncLeaves
import Derived.Shelf.Abstract
import Derived.Shelf.RegionOpen
import Derived.OwnWalkIn
import Derived.TacticsInMore
import Derived.LoopNIn
import Derived.LoopIn
import Derived.Deep.RegionLaw
import Derived.Shelf.RegionOpenPlain
import Derived.Lib.Overlaps
import Derived.Lib.AppendZerosOnto
import Derived.Laws.Externs
import Derived.Lib.SliceRun
set_option linter.unusedSimpArgs false
set_option linter.unusedVariables false
set_option maxRecDepth 100000
set_option maxHeartbeats 16000000
namespace Go.Proofs.YtojojebildofnaaGreatDoor
open Go Go.RowKit Go.Proofs.Tryz
open _root_.List renaming getElem?_eq_getElem → VY, mem_of_getElem? → V0, map_cons → V1, length_take → V2, getElem?_eq_some_iff → V3, take_length → V4, map_nil → V5, map_append → V6, getElem?_map → V7, setIfInBounds_toArray → V8, length_append → V9, length_cons → Wc, length_map → Wg, set_cons_zero → Wi, take_of_length_le → Wj, set_cons_succ → Wl, getElem?_eq_none → Wm, getElem?_take_of_lt → Wo, mem_map → Wp, getElem?_append_right → Wq, length_drop → Wt, getD_eq_getElem?_getD → Ww, all_eq_true → Wx, replicate → Wy, eq_nil_of_length_eq_zero → WA, range → WC, append_assoc → WE, findIdx?_eq_some_iff_getElem → WF, pairwise_iff_getElem → WG, cons_append → WH, mem_cons → WI, mem_append → WJ, getElem?_append_left → WK, mem_of_mem_drop → WL, length_nil → WM, mem_of_mem_take → WN, nil_append → WO, mem_singleton → WP, ext_getElem? → WS, getElem?_drop → WU, append_nil → WV, take_append_of_le_length → WY, getElem_mem → W8, mem_iff_getElem → W9, size_toArray → Xb, take → Xd, flatten_cons → Xe, getElem?_cons_succ → Xg, mem_range → Xk, findIdx?_eq_none_iff → Xm, map_congr_left → Xr, toList_toArray → Xs, any_eq_false → Xu, drop_eq_getElem_cons → Xv, pairwise_cons → Xz, foldl_cons → XA, mem_map_of_mem → XC, set_append_right → XD, take_append_drop → XE, any_eq_true → XK, flatMap_append → XL, length_pos_iff → XM, filter_filter → XN, getElem?_take → XO, find?_eq_none → XP, map_take → XS, take_succ_eq_append_getElem → XT, pairwise_append → X3, all_eq_false → X6, foldl_append → X9, append_toArray → Ye, drop_length → Yi, mem_of_find?_eq_some → Yp, push_toArray → Yu, mem_flatten → Yy, filter_congr → YD, getElem_take → YE, pairwise_map → YF, flatten_append → YQ, take_sublist → YZ
open Go.Lib renaming hid → VZ
open _root_.Nat renaming le_refl → Wa, zero_add → Wn, zero_le → Wr, reduceAdd → Ws, reduceEqDiff → Wu, lt_or_ge → Wv, add_zero → Wz, mul_le_mul_right → WX, sub_zero → WZ, lt_of_lt_of_le → W4, le_trans → W6, succ_mul → Xf, sub_self → Xy, add_assoc → XI, add_mul → XV, not_lt_zero → XW, lt_trichotomy → X8, zero_lt_succ → Yh, eq_zero_or_pos → Yk, min → Yo, div_add_mod → Yq, reduceLT → Ys, min_def → YI, le_of_lt → YM, reduceSub → YS, lt_or_eq_of_le → Y7, le_of_lt_succ → Y9
open Go.World renaming size_alloc → Wb, heap_drewN → We, size_drew → Wf, cell? → Xl, cell?_of_block → XR, setRow → Yf, ownsRow_nil → YV
open _root_.Bool renaming and_eq_true → Wd, and_self → WW, and_true → Xa, eq_iff_iff → Xh, true_and → Xt, false_eq_true → XF, eq_false_iff → Yt, false_and → YG, and_assoc → Y0
open _root_.Option renaming map_eq_some_iff → Wh, isSome_some → Wk, some → WD, map_some → WQ, isNone_some → W7, getD_some → Xc, isSome_none → Xi, bind_some → Xn, isNone_none → XQ, isSome_iff_exists → XZ, map_none → Yb
open _root_.Array renaming getElem?_toList → WB, getElem?_eq_none → WT, getElem?_eq_some_iff → W5, getElem?_eq_getElem → Xj, replicate → XB, replicate_succ → X4, replicate_zero → X5, toList_append → YR
open _root_.Int renaming lt_irrefl → Xp, eq_ofNat_of_zero_le → X7, dvd_of_emod_eq_zero → Ya, fdiv_eq_ediv_of_nonneg → Yl, pow_succ → Zc
open _root_.ByteArray renaming size_extract → Xx
def tr (at_:Pfx)(f:Fce):Bool:=du f.id&&(!((f.addrs.length:Int)==0)&&(eT (fun x=>x) f.addrs&&f.addrs.all (pc at_)))
def eC (s:Sbn):Bool:=s.faces.all (tr s.at_)&&(decide (s.faces.flatMap (·.addrs)).Nodup&&eT (·.id) s.faces)
theorem HV (n:Int):ae prog 266 [.v (.int .i64 n)] (.v (.int .i64 n)):=by
 refine pj func266 ntmps266 results266 ?_;exact bx
theorem HW (f:Fce):ae prog 268 [.agg (cO f)] (.v (.int .i64 f.id)):=by
 refine pj func268 ntmps268 results268 ?_;exact bx
def NO (ents:List (List Int × Int))(done:List Int):Prop:=∀a,kN ents [a]=if a∈done then some 1 else none
theorem DI:NO [] []:=fun a=>by simp[kN]
theorem zP {ents:List (List Int × Int)}{done:List Int}(h:NO ents done){a:Int}(ha:a∉done):NO (ly ents [a] 1) (done++[a]):=by
 intro b;rw[eS,h b];by_cases hb:a=b
 ·subst hb;simp
 ·have hb':¬b=a:=fun e=>hb e.symm;simp[hb,hb']
theorem nZ {l:List Int}{a:Int}:(l++[a]).Nodup↔l.Nodup∧a∉l:=by
 rw[List.nodup_append];simp;intro _;constructor
 ·intro h hm;exact h a hm rfl
 ·intro h b hb e;subst e;exact h hb
theorem xu (s:Sbn)(h8:s.faces.length≤8)(h4:∀f∈s.faces,f.addrs.length≤4):ae prog 212 [.agg (bw s)] (.v (.bool (eC s))):=by
 have Rz:=BY s7 (·.id) s.faces 268 (by omega) (fun f _=>HW f);refine pj func212 ntmps212 results212 ?_;refine aF ?_<;>intros;refine cp ah av (fun m e h=>∃(k:Nat) (ents:List (List Int × Int)),k≤s.faces.length∧NO ents ((s.faces.take k).flatMap (·.addrs))∧((s.faces.take k).flatMap (·.addrs)).Nodup∧(∀f∈s.faces.take k,tr s.at_ f=true)∧m=s.faces.length - k∧
  e=[(12,.d (.v (.int .i64 k))),(11,.d (.v (.int .i64 s.faces.length))),(10,.d (.sl 2 (s.faces.map cO))),(3,.mref 1),(2,.d (.v (.bool false))),(1,.ptr 0 0)]∧h=[.box 107 ((bw s).map .d),.mp 1 false ents]) _ _ _ ⟨0,[],Wr _,DI,List.nodup_nil,fun f h=>by simp at h,rfl,rfl,rfl⟩ (wf) ?_
 rintro m e h ⟨k,ents,hk,pK,jX,b7,hm,rfl,rfl⟩ C hC;by_cases hlt:k < s.faces.length
 ·have g8:(k:Int) < (s.faces.length:Int):=by omega
  have ed:=wi k (by omega);obtain⟨f,hf⟩:∃f,s.faces[k]? =some f:=⟨_,VY hlt⟩;have lI:=V0 hf;have hid:=iV f.id;have TR:=Fo f.addrs 266 (by have:=h4 f lI;omega) HV;have iN:=h4 f lI;have cD:tr s.at_ f=false→eC s=false:=fun h=>by
   unfold eC;rw[Bool.and_eq_false_iff];left;rw[X6];exact⟨f,lI,by rw[h];simp⟩
  replace cD:=VZ cD;replace hm:=VZ hm;replace pK:=VZ pK;replace jX:=VZ jX;replace b7:=VZ b7;have C4:tr s.at_ f=(du f.id&&(!((f.addrs.length:Int)==0)&&(eT (fun x=>x) f.addrs&&f.addrs.all (pc s.at_)))):=rfl;replace C4:=VZ C4;cases b1:du f.id with
  |false=>
   rw[b1]at hid;refine aF ?_<;>intros;all_goals(rw[cD.out (by rw[C4.out,b1];rfl)];exact au.refl _)
  |true=>
  rw[b1]at hid;cases b2:(f.addrs.length:Int)==0 with
  |true=>
   refine aF ?_<;>intros;all_goals(rw[cD.out (by rw[C4.out,b1,b2];rfl)];exact au.refl _)
  |false=>
  cases b3:eT (fun x=>x) f.addrs with
  |false=>
   rw[b3]at TR;refine aF ?_<;>intros;all_goals(rw[cD.out (by rw[C4.out,b1,b2,b3];rfl)];exact au.refl _)
  |true=>
  rw[b3]at TR;refine aF ?_<;>intros;refine cp ah av (fun m e h=>∃(j:Nat) (ents:List (List Int × Int)),j≤f.addrs.length∧NO ents ((s.faces.take k).flatMap (·.addrs)++f.addrs.take j)∧((s.faces.take k).flatMap (·.addrs)++f.addrs.take j).Nodup∧(∀a∈f.addrs.take j,pc s.at_ a=true)∧m=f.addrs.length - j∧
   e=[(35,.d (.v (.int .i64 j))),(34,.d (.v (.int .i64 f.addrs.length))),(33,.d (.sl 1 (f.addrs.map dI))),(12,.d (.v (.int .i64 k))),(11,.d (.v (.int .i64 s.faces.length))),(10,.d (.sl 2 (s.faces.map cO))),(3,.mref 1),(2,.d (.v (.bool false))),(1,.ptr 0 0)]∧h=[.box 107 ((bw s).map .d),.mp 1 false ents]) _ _ _ ⟨0,ents,Wr _,by simpa using pK.out,by simpa using jX.out,fun f h=>by simp at h,rfl,rfl,rfl⟩ (wf) ?_
  rintro m2 e h ⟨j,en2,hj,f5,C5,ux,jr,rfl,rfl⟩ C2 vm;by_cases Gf:j < f.addrs.length
  ·have oF:(j:Int) < (f.addrs.length:Int):=by omega
   have Bc:=wi j (by omega);obtain⟨a,ha⟩:∃a,f.addrs[j]? =some a:=⟨_,VY Gf⟩;have UQ:=V0 ha;have g7:=DG s.at_ a;have OS:=f5 a;have jp:f.addrs.take (j+1)=f.addrs.take j++[a]:=aj ha;replace jp:=VZ jp;replace jr:=VZ jr;replace ux:=VZ ux;replace C5:=VZ C5;by_cases hd:a∈(s.faces.take k).flatMap (·.addrs)++f.addrs.take j
   ·rw[if_pos hd]at OS;have hr:eC s=false:=by
     have:¬(s.faces.flatMap (·.addrs)).Nodup:=by
      intro hn;have un:((s.faces.take k).flatMap (·.addrs)++f.addrs.take (j+1)).Sublist (s.faces.flatMap (·.addrs)):=by
       conv=>rhs;rw[←XE k s.faces,pf hf,XL,List.flatMap_cons]
       exact List.Sublist.append (List.Sublist.refl _) ((YZ _ _).trans (List.sublist_append_left _ _))
      have:=un.nodup hn;rw[jp.out,←WE,nZ]at this;exact this.2 hd
     unfold eC;simp[this]
    have lL:kN (ly en2 [a] 2) [a]=some 2:=by rw[eS,if_pos rfl]
    replace f5:=VZ f5;have cN:IntKind.i64.wrap 2=2:=by decide
    have hgt:decide ((2:Int)>1)=true:=rfl;exact bx;all_goals(rw[hr];exact au.refl _)
   ·rw[if_neg hd]at OS;have lL:kN (ly en2 [a] 1) [a]=some 1:=by rw[eS,if_pos rfl]
    have mK:=zP f5 hd;replace f5:=VZ f5;replace mK:=VZ mK;have cN:IntKind.i64.wrap 1=1:=by decide
    have hgt:decide ((1:Int)>1)=false:=rfl;cases b4:pc s.at_ a with
    |false=>
     rw[b4]at g7;have hr:eC s=false:=cD.out (by
      rw[C4.out,b1,b2,b3];have:f.addrs.all (pc s.at_)=false:=by rw[X6];exact⟨a,UQ,by rw[b4];simp⟩
      rw[this];rfl)
     exact bx;all_goals(rw[hr];exact au.refl _)
    |true=>
     rw[b4]at g7;refine aF ?_<;>intros;refine vm _ _ _ _ _ ?_ ⟨j+1,ly en2 [a] 1,Gf,?_,?_,?_,rfl,rfl,rfl⟩ (wf)
     ·have:=jr.out;omega
     ·rw[jp.out,←WE];exact mK.out
     ·rw[jp.out,←WE,nZ];exact⟨C5.out,hd⟩
     ·intro b hb;rw[jp.out]at hb;rcases WJ.1 hb with hb|hb
      ·exact ux.out b hb
      ·rw[WP.1 hb];exact b4
  ·obtain rfl:j=f.addrs.length:=by omega
   rw[V4]at f5 C5 ux;have rU:(s.faces.take (k+1)).flatMap (·.addrs)=(s.faces.take k).flatMap (·.addrs)++f.addrs:=by rw[aj hf,XL];simp
   replace jr:=VZ jr;replace f5:=VZ f5;replace C5:=VZ C5;replace ux:=VZ ux;replace rU:=VZ rU;refine aF ?_<;>intros;refine hC _ _ _ _ _ ?_ ⟨k+1,en2,hlt,?_,?_,?_,rfl,rfl,rfl⟩ (wf)
   ·have:=hm.out;omega
   ·rw[rU.out];exact f5.out
   ·rw[rU.out];exact C5.out
   ·intro g hg;rw[aj hf]at hg;rcases WJ.1 hg with hg|hg
    ·exact b7.out g hg
    ·rw[WP.1 hg,C4.out,b1,b2,b3];simp only[Xt,Bool.not_false];exact Wx.2 ux.out
 ·obtain rfl:k=s.faces.length:=by omega
  rw[V4]at pK jX b7;have hr:eC s=eT (·.id) s.faces:=by
   unfold eC;rw[Wx.2 b7];simp[jX]
  replace hr:=VZ hr;replace pK:=VZ pK;replace jX:=VZ jX;replace b7:=VZ b7;replace hm:=VZ hm;refine aF ?_<;>intros;all_goals(rw[hr.out];exact au.refl _)
def eU (r:Rng):Bool:=du r.pool&&(chk r.at_.at_ r.at_.len==0)
def n7 (v:Vpc)(s:Sbn):Bool:=du s.id&&(fS v s.at_&&eC s)
def we (v:Vpc):Bool:=(du v.id&&(eT (·.at_.at_) v.ranges&&eT (·.id) v.subs))&&(v.ranges.all eU&&v.subs.all (n7 v))
def cq (v:Vpc):Int:=if pa v then 2 else if we v&&(fm [] (v.ranges.map (·.at_))&&fm [] (v.subs.map (·.at_)))then 0 else 1
theorem Fp (r:Rng):ae prog 209 [.agg (cf r)] (.v (.int .i64 r.at_.at_)):=by
 refine pj func209 ntmps209 results209 ?_;exact bx
theorem Fq (s:Sbn):ae prog 211 [.agg (bw s)] (.v (.int .i64 s.id)):=by
 refine pj func211 ntmps211 results211 ?_;exact bx
theorem kk {α:Type}{p:α→Bool}{l:List α}{k:Nat}{x:α}(h:l[k]? =some x):(l.take (k+1)).all p=((l.take k).all p&&p x):=by
 rw[aj h,List.all_append];simp
theorem mq (v:Vpc):ae prog 125 [.agg (aG v)] (.v (.int .i64 (cq v))):=by
 have uy:=NN v;cases hm:pa v with
 |true=>
  rw[hm]at uy;have hr:cq v=2:=by unfold cq;rw[if_pos hm]
  rw[hr];refine pj func125 ntmps125 results125 ?_;exact bx
 |false=>
 obtain⟨h4,h6,h8⟩:=zN hm;rw[hm]at uy;have hid:=iV v.id;have ur:=zO kf (fun r:Rng=>r.at_.at_) v.ranges 209 (by omega) (fun r _=>Fp r);have x7:=Fn ke (fun s:Sbn=>s.id) v.subs 211 (by omega) (fun r _=>Fq r);obtain⟨F0,OT⟩:∃F0,F0=(du v.id&&(eT (·.at_.at_) v.ranges&&eT (·.id) v.subs)):=⟨_,rfl⟩;have x9:=DH (v.ranges.map (·.at_)) (by rw[Wg];omega);have ya:=DH (v.subs.map (·.at_)) (by rw[Wg];omega);have CR:cq v=if (F0&&v.ranges.all eU&&v.subs.all (n7 v))&&(fm [] (v.ranges.map (·.at_))&&fm [] (v.subs.map (·.at_)))then 0 else 1:=by
  unfold cq we;rw[if_neg (by simp[hm]),OT];simp only[Y0]
 rw[CR];replace CR:=VZ CR;replace h8:=VZ h8;replace hm:=VZ hm;replace uy:=VZ uy;cases b1:du v.id with
 |false=>
  rw[b1,YG]at OT;subst OT;rw[b1]at hid;refine pj func125 ntmps125 results125 ?_;have z1z:=uy.out;have z2z:=uy.out;refine aF ?_<;>intros;refine cp ah av (fun m e h=>∃(k g:Nat) (X:Bool),k≤v.ranges.length∧X=(false&&(v.ranges.take k).all eU)∧m=v.ranges.length - k∧e=[(28,.d (.v (.int .i64 k))),(27,.d (.v (.int .i64 v.ranges.length))),(26,.d (.sl 3 (v.ranges.map cf))),(5,.d (.v (.bool X))),(4,.d (.v (.slice none 0 0))),(3,.own 1 g),(2,.d (.v (.int .i64 0))),(1,.ptr 0 0)]∧
   h=[.box 88 ((aG v).map .d),.row 23 2 g (aa (((v.ranges.take k).map (·.at_)).map aL))]) _ _ _ ⟨0,0,false,Wr _,by simp,rfl,rfl,rfl⟩ ((dO (Wr _) 3 23 2 rfl).trans (wf)) ?_
  rintro m e h ⟨k,g,X,hk,hX,hm0,rfl,rfl⟩ C hC;by_cases hlt:k < v.ranges.length
  ·have g8:(k:Int) < (v.ranges.length:Int):=by omega
   have ed:=wi k (by omega);obtain⟨r,hr⟩:∃r,v.ranges[k]? =some r:=⟨_,VY hlt⟩;have Ge:=iV r.pool;have QE:=m3 r.at_;have rD:(Xd k v.ranges).length=k:=by rw[V2];omega
   have vk:(k+1)*16≤140737488355328:=by omega
   have uz:=kk (p:=eU) hr;have Jz:eU r=(du r.pool&&(chk r.at_.at_ r.at_.len==0)):=rfl;generalize chk r.at_.at_ r.at_.len=K at*;generalize du r.pool=I at*;replace hX:=VZ hX;replace uz:=VZ uz;replace Jz:=VZ Jz;replace hm0:=VZ hm0;replace hr:=VZ hr;have QF:=hr.out;refine Pg ?_ ?_ ?_<;>intros;all_goals(refine hC _ _ _ _ _ ?_ ⟨k+1,g+1,_,hlt,?_,rfl,rfl,rfl⟩ (wf (hh:=(by rw[aj hr.out];simp only[aG,V6,V1,V5,aL,←bi];rfl))))
   all_goals first
    |(have:=hm0.out;omega)
    |(have h1:=hX.out;have h2:=uz.out;have h3:=Jz.out;clear x9 ya ur x7 hid Ge QE hC uy;grind)
  ·obtain rfl:k=v.ranges.length:=by omega
   rw[V4]at hX ⊢;replace hX:=VZ hX;replace hm0:=VZ hm0;refine aF ?_<;>intros;refine cp ah av (fun m e h=>∃(k g2:Nat) (Y:Bool),k≤v.subs.length∧Y=(X&&(v.subs.take k).all (n7 v))∧m=v.subs.length - k∧e=[(53,.d (.v (.int .i64 k))),(52,.d (.v (.int .i64 v.subs.length))),(51,.d (.sl 4 (v.subs.map bw))),(5,.d (.v (.bool Y))),(4,.own 2 g2),(3,.own 1 g),(2,.d (.v (.int .i64 0))),(1,.ptr 0 0)]∧
    h=[.box 88 ((aG v).map .d),.row 23 2 g (aa ((v.ranges.map (·.at_)).map aL)),.row 23 2 g2 (aa (((v.subs.take k).map (·.at_)).map aL))]) _ _ _ ⟨0,0,X,Wr _,by simp,rfl,rfl,rfl⟩ ((dO (Wr _) 4 23 2 rfl).trans (wf)) ?_
   rintro m2 e h ⟨k,g2,Y,kD,hY,jr,rfl,rfl⟩ C hC;by_cases hlt:k < v.subs.length
   ·have g8:(k:Int) < (v.subs.length:Int):=by omega
    have ed:=wi k (by omega);obtain⟨s,hs⟩:∃s,v.subs[k]? =some s:=⟨_,VY hlt⟩;have lO:=V0 hs;have Bm:=iV s.id;have Gg:=pb v s.at_ (by omega);have QG:=xu s (h8.out s lO).1 (h8.out s lO).2;have rD:(Xd k v.subs).length=k:=by rw[V2];omega
    have vk:(k+1)*16≤140737488355328:=by omega
    have uz:=kk (p:=n7 v) hs;have wN:n7 v s=(du s.id&&(fS v s.at_&&eC s)):=rfl;generalize fS v s.at_=H at*;generalize du s.id=I at*;generalize eC s=F at*;replace hY:=VZ hY;replace uz:=VZ uz;replace wN:=VZ wN;replace jr:=VZ jr;replace hs:=VZ hs;have QH:=hs.out;refine RU ?_ ?_ ?_ ?_<;>intros;all_goals(refine hC _ _ _ _ _ ?_ ⟨k+1,g2+1,_,hlt,?_,rfl,rfl,rfl⟩ (wf (hh:=(by rw[aj hs.out];simp only[aG,V6,V1,V5,aL,←bi];rfl))))
    all_goals first
     |(have:=jr.out;omega)
     |(have h1:=hY.out;have h2:=uz.out;have h3:=wN.out;clear x9 ya ur x7 hid Bm Gg QG hC uy;grind)
   ·obtain rfl:k=v.subs.length:=by omega
    rw[V4]at hY ⊢;replace hY:=VZ hY;replace jr:=VZ jr;have QI:fm [] (v.ranges.map (·.at_))=fm [] (v.ranges.map (·.at_)):=rfl;generalize M9:fm [] (v.ranges.map (·.at_))=A1 at*;generalize Na:fm [] (v.subs.map (·.at_))=A2 at*;replace M9:=VZ M9;replace Na:=VZ Na;clear QI;refine aF ?_<;>intros;all_goals
     have h1:=hX.out;have h2:=hY.out;clear x9 ya ur x7 hid hC uy;first
      |exact au.refl _
      |(rw[if_pos (by grind)];exact au.refl _)
      |(rw[if_neg (by grind)];exact au.refl _)
      |(exfalso;grind)
 |true=>
  rw[b1]at hid;cases b2:eT (fun r:Rng=>r.at_.at_) v.ranges with
  |false=>
   rw[b1,b2,YG,Bool.and_false]at OT;subst OT;rw[b2]at ur;refine pj func125 ntmps125 results125 ?_;have z1z:=uy.out;refine aF ?_<;>intros;refine cp ah av (fun m e h=>∃(k g:Nat) (X:Bool),k≤v.ranges.length∧X=(false&&(v.ranges.take k).all eU)∧m=v.ranges.length - k∧e=[(28,.d (.v (.int .i64 k))),(27,.d (.v (.int .i64 v.ranges.length))),(26,.d (.sl 3 (v.ranges.map cf))),(5,.d (.v (.bool X))),(4,.d (.v (.slice none 0 0))),(3,.own 1 g),(2,.d (.v (.int .i64 0))),(1,.ptr 0 0)]∧
    h=[.box 88 ((aG v).map .d),.row 23 2 g (aa (((v.ranges.take k).map (·.at_)).map aL))]) _ _ _ ⟨0,0,false,Wr _,by simp,rfl,rfl,rfl⟩ ((dO (Wr _) 3 23 2 rfl).trans (wf)) ?_
   rintro m e h ⟨k,g,X,hk,hX,hm0,rfl,rfl⟩ C hC;by_cases hlt:k < v.ranges.length
   ·have g8:(k:Int) < (v.ranges.length:Int):=by omega
    have ed:=wi k (by omega);obtain⟨r,hr⟩:∃r,v.ranges[k]? =some r:=⟨_,VY hlt⟩;have Ge:=iV r.pool;have QE:=m3 r.at_;have rD:(Xd k v.ranges).length=k:=by rw[V2];omega
    have vk:(k+1)*16≤140737488355328:=by omega
    have uz:=kk (p:=eU) hr;have Jz:eU r=(du r.pool&&(chk r.at_.at_ r.at_.len==0)):=rfl;generalize chk r.at_.at_ r.at_.len=K at*;generalize du r.pool=I at*;replace hX:=VZ hX;replace uz:=VZ uz;replace Jz:=VZ Jz;replace hm0:=VZ hm0;replace hr:=VZ hr;have QF:=hr.out;refine Pg ?_ ?_ ?_<;>intros;all_goals(refine hC _ _ _ _ _ ?_ ⟨k+1,g+1,_,hlt,?_,rfl,rfl,rfl⟩ (wf (hh:=(by rw[aj hr.out];simp only[aG,V6,V1,V5,aL,←bi];rfl))))
    all_goals first
     |(have:=hm0.out;omega)
     |(have h1:=hX.out;have h2:=uz.out;have h3:=Jz.out;clear x9 ya ur x7 hid Ge QE hC uy;grind)
   ·obtain rfl:k=v.ranges.length:=by omega
    rw[V4]at hX ⊢;replace hX:=VZ hX;replace hm0:=VZ hm0;refine aF ?_<;>intros;refine cp ah av (fun m e h=>∃(k g2:Nat) (Y:Bool),k≤v.subs.length∧Y=(X&&(v.subs.take k).all (n7 v))∧m=v.subs.length - k∧e=[(53,.d (.v (.int .i64 k))),(52,.d (.v (.int .i64 v.subs.length))),(51,.d (.sl 4 (v.subs.map bw))),(5,.d (.v (.bool Y))),(4,.own 2 g2),(3,.own 1 g),(2,.d (.v (.int .i64 0))),(1,.ptr 0 0)]∧
     h=[.box 88 ((aG v).map .d),.row 23 2 g (aa ((v.ranges.map (·.at_)).map aL)),.row 23 2 g2 (aa (((v.subs.take k).map (·.at_)).map aL))]) _ _ _ ⟨0,0,X,Wr _,by simp,rfl,rfl,rfl⟩ ((dO (Wr _) 4 23 2 rfl).trans (wf)) ?_
    rintro m2 e h ⟨k,g2,Y,kD,hY,jr,rfl,rfl⟩ C hC;by_cases hlt:k < v.subs.length
    ·have g8:(k:Int) < (v.subs.length:Int):=by omega
     have ed:=wi k (by omega);obtain⟨s,hs⟩:∃s,v.subs[k]? =some s:=⟨_,VY hlt⟩;have lO:=V0 hs;have Bm:=iV s.id;have Gg:=pb v s.at_ (by omega);have QG:=xu s (h8.out s lO).1 (h8.out s lO).2;have rD:(Xd k v.subs).length=k:=by rw[V2];omega
     have vk:(k+1)*16≤140737488355328:=by omega
     have uz:=kk (p:=n7 v) hs;have wN:n7 v s=(du s.id&&(fS v s.at_&&eC s)):=rfl;generalize fS v s.at_=H at*;generalize du s.id=I at*;generalize eC s=F at*;replace hY:=VZ hY;replace uz:=VZ uz;replace wN:=VZ wN;replace jr:=VZ jr;replace hs:=VZ hs;have QH:=hs.out;refine RU ?_ ?_ ?_ ?_<;>intros;all_goals(refine hC _ _ _ _ _ ?_ ⟨k+1,g2+1,_,hlt,?_,rfl,rfl,rfl⟩ (wf (hh:=(by rw[aj hs.out];simp only[aG,V6,V1,V5,aL,←bi];rfl))))
     all_goals first
      |(have:=jr.out;omega)
      |(have h1:=hY.out;have h2:=uz.out;have h3:=wN.out;clear x9 ya ur x7 hid Bm Gg QG hC uy;grind)
    ·obtain rfl:k=v.subs.length:=by omega
     rw[V4]at hY ⊢;replace hY:=VZ hY;replace jr:=VZ jr;have QI:fm [] (v.ranges.map (·.at_))=fm [] (v.ranges.map (·.at_)):=rfl;generalize M9:fm [] (v.ranges.map (·.at_))=A1 at*;generalize Na:fm [] (v.subs.map (·.at_))=A2 at*;replace M9:=VZ M9;replace Na:=VZ Na;clear QI;refine aF ?_<;>intros;all_goals
      have h1:=hX.out;have h2:=hY.out;clear x9 ya ur x7 hid hC uy;first
       |exact au.refl _
       |(rw[if_pos (by grind)];exact au.refl _)
       |(rw[if_neg (by grind)];exact au.refl _)
       |(exfalso;grind)
  |true=>
   rw[b1,b2,Xt,Xt]at OT;subst OT;rw[b2]at ur;generalize eT (fun s:Sbn=>s.id) v.subs=F0 at*;refine pj func125 ntmps125 results125 ?_;have z1z:=uy.out;refine aF ?_<;>intros;refine cp ah av (fun m e h=>∃(k g:Nat) (X:Bool),k≤v.ranges.length∧X=(F0&&(v.ranges.take k).all eU)∧m=v.ranges.length - k∧e=[(28,.d (.v (.int .i64 k))),(27,.d (.v (.int .i64 v.ranges.length))),(26,.d (.sl 3 (v.ranges.map cf))),(5,.d (.v (.bool X))),(4,.d (.v (.slice none 0 0))),(3,.own 1 g),(2,.d (.v (.int .i64 0))),(1,.ptr 0 0)]∧
    h=[.box 88 ((aG v).map .d),.row 23 2 g (aa (((v.ranges.take k).map (·.at_)).map aL))]) _ _ _ ⟨0,0,F0,Wr _,by simp,rfl,rfl,rfl⟩ ((dO (Wr _) 3 23 2 rfl).trans (wf)) ?_
   rintro m e h ⟨k,g,X,hk,hX,hm0,rfl,rfl⟩ C hC;by_cases hlt:k < v.ranges.length
   ·have g8:(k:Int) < (v.ranges.length:Int):=by omega
    have ed:=wi k (by omega);obtain⟨r,hr⟩:∃r,v.ranges[k]? =some r:=⟨_,VY hlt⟩;have Ge:=iV r.pool;have QE:=m3 r.at_;have rD:(Xd k v.ranges).length=k:=by rw[V2];omega
    have vk:(k+1)*16≤140737488355328:=by omega
    have uz:=kk (p:=eU) hr;have Jz:eU r=(du r.pool&&(chk r.at_.at_ r.at_.len==0)):=rfl;generalize chk r.at_.at_ r.at_.len=K at*;generalize du r.pool=I at*;replace hX:=VZ hX;replace uz:=VZ uz;replace Jz:=VZ Jz;replace hm0:=VZ hm0;replace hr:=VZ hr;have QF:=hr.out;refine Pg ?_ ?_ ?_<;>intros;all_goals(refine hC _ _ _ _ _ ?_ ⟨k+1,g+1,_,hlt,?_,rfl,rfl,rfl⟩ (wf (hh:=(by rw[aj hr.out];simp only[aG,V6,V1,V5,aL,←bi];rfl))))
    all_goals first
     |(have:=hm0.out;omega)
     |(have h1:=hX.out;have h2:=uz.out;have h3:=Jz.out;clear x9 ya ur x7 hid Ge QE hC uy;grind)
   ·obtain rfl:k=v.ranges.length:=by omega
    rw[V4]at hX ⊢;replace hX:=VZ hX;replace hm0:=VZ hm0;refine aF ?_<;>intros;refine cp ah av (fun m e h=>∃(k g2:Nat) (Y:Bool),k≤v.subs.length∧Y=(X&&(v.subs.take k).all (n7 v))∧m=v.subs.length - k∧e=[(53,.d (.v (.int .i64 k))),(52,.d (.v (.int .i64 v.subs.length))),(51,.d (.sl 4 (v.subs.map bw))),(5,.d (.v (.bool Y))),(4,.own 2 g2),(3,.own 1 g),(2,.d (.v (.int .i64 0))),(1,.ptr 0 0)]∧
     h=[.box 88 ((aG v).map .d),.row 23 2 g (aa ((v.ranges.map (·.at_)).map aL)),.row 23 2 g2 (aa (((v.subs.take k).map (·.at_)).map aL))]) _ _ _ ⟨0,0,X,Wr _,by simp,rfl,rfl,rfl⟩ ((dO (Wr _) 4 23 2 rfl).trans (wf)) ?_
    rintro m2 e h ⟨k,g2,Y,kD,hY,jr,rfl,rfl⟩ C hC;by_cases hlt:k < v.subs.length
    ·have g8:(k:Int) < (v.subs.length:Int):=by omega
     have ed:=wi k (by omega);obtain⟨s,hs⟩:∃s,v.subs[k]? =some s:=⟨_,VY hlt⟩;have lO:=V0 hs;have Bm:=iV s.id;have Gg:=pb v s.at_ (by omega);have QG:=xu s (h8.out s lO).1 (h8.out s lO).2;have rD:(Xd k v.subs).length=k:=by rw[V2];omega
     have vk:(k+1)*16≤140737488355328:=by omega
     have uz:=kk (p:=n7 v) hs;have wN:n7 v s=(du s.id&&(fS v s.at_&&eC s)):=rfl;generalize fS v s.at_=H at*;generalize du s.id=I at*;generalize eC s=F at*;replace hY:=VZ hY;replace uz:=VZ uz;replace wN:=VZ wN;replace jr:=VZ jr;replace hs:=VZ hs;have QH:=hs.out;refine RU ?_ ?_ ?_ ?_<;>intros;all_goals(refine hC _ _ _ _ _ ?_ ⟨k+1,g2+1,_,hlt,?_,rfl,rfl,rfl⟩ (wf (hh:=(by rw[aj hs.out];simp only[aG,V6,V1,V5,aL,←bi];rfl))))
     all_goals first
      |(have:=jr.out;omega)
      |(have h1:=hY.out;have h2:=uz.out;have h3:=wN.out;clear x9 ya ur x7 hid Bm Gg QG hC uy;grind)
    ·obtain rfl:k=v.subs.length:=by omega
     rw[V4]at hY ⊢;replace hY:=VZ hY;replace jr:=VZ jr;have QI:fm [] (v.ranges.map (·.at_))=fm [] (v.ranges.map (·.at_)):=rfl;generalize M9:fm [] (v.ranges.map (·.at_))=A1 at*;generalize Na:fm [] (v.subs.map (·.at_))=A2 at*;replace M9:=VZ M9;replace Na:=VZ Na;clear QI;refine Tv ?_ ?_<;>intros;all_goals
      have h1:=hX.out;have h2:=hY.out;clear x9 ya ur x7 hid hC uy;first
       |exact au.refl _
       |(rw[if_pos (by grind)];exact au.refl _)
       |(rw[if_neg (by grind)];exact au.refl _)
       |(exfalso;grind)
def eD (s:Sbn)(v:PV):List PV:=[.d (.v (.int .i64 s.id)),.d (.v (.int .i64 s.at_.at_)),.d (.v (.int .i64 s.at_.len)),v]
def iy (f:Fce)(v:PV):List PV:=[.d (.v (.int .i64 f.id)),v]
def fH {α:Type}(enc:α→List D)(pre:List α)(r:List PV)(post:List α):List (List PV):=aa (pre.map enc)++r::aa (post.map enc)
section
variable {α:Type}{enc:α→List D}
@[go_sem] theorem PT (pre:List α)(r:List PV)(post:List α):(fH enc pre r post).length=pre.length+1+post.length:=by
 simp[fH,aA];omega
theorem tt (n:Nat):∀(l m:List (List PV)),bN n (l++m)=(bN n l&&bN n m)
 |[],m=>rfl
 |r::l,m=>by simp only[WH,bN,tt n l m,Y0]
theorem zQ (n:Nat)(pre:List α)(r:List PV)(post:List α):bN n (fH enc pre r post)=af n r:=by
 simp only[fH,tt,bN,an,Xt,Xa]
theorem fg {A:Prop}(h:A:=by first|rfl|simp only[ay,dn,aH,af,bN,ag,aK,an,zQ,eD,iy,Wc,WM,Ws,Ys,decide_true,WW,Xa]):A:=h
theorem eZ (k g:Nat)(d:D)(pre:List α)(r:List PV)(post:List α):fL k g d (fH enc pre r post)=fH enc pre (f8 k g d r) post:=by
 simp only[fH,aT,fL,bO]
theorem qp (pre:List α)(r:List PV)(post:List α)(q:α):fH enc pre r post++[(enc q).map .d]=fH enc pre r (post++[q]):=by
 simp[fH,aa]
@[go_sem] theorem Ph (ρ:Nat→Nat)(pre:List α)(r:List PV)(post:List α):gM ρ (fH enc pre r post)=fH enc pre (fK ρ r) post:=by
 have app:∀(l m:List (List PV)),gM ρ (l++m)=gM ρ l++gM ρ m:=by
  intro l m;rw[dG,dG,dG,V6]
 simp only[fH,app,gM,sL]
theorem wg (f:PV→Option D):∀(l m:List (List PV)),cy f (l++m)=match cy f l,cy f m with|some a,some b=>some (a++b)|_,_=>none
 |[],m=>by simp only[WO,cy];cases cy f m<;>rfl
 |r::l,m=>by
  simp only[WH,cy,wg f l m];cases bW f r<;>cases cy f l<;>cases cy f m<;>rfl
@[go_sem] theorem NP (h:Nat→Chunk)(n:Nat)(pre:List α)(r:List PV)(post:List α):cy (aO h n) (fH enc pre r post)=match bW (aO h n) r with|some d=>some (pre.map enc++d::post.map enc)|none=>none:=by
 simp only[fH,wg,cy,dF];cases bW (aO h n) r<;>rfl
@[go_sem] theorem PU (pre:List α)(r:List PV)(post:List α):(fH enc pre r post)[pre.length]? =some r:=by
 unfold fH;rw[Wq (by simp[aA])];simp[aA]
@[go_sem] theorem PW (pre:List α)(r r':List PV)(post:List α):(fH enc pre r post).set pre.length r'=fH enc pre r' post:=by
 unfold fH;rw[XD _ _ (by simp[aA])];simp[aA]
end
def eo {α:Type}(key:α→Int)(x:α)(l:List α):List α:=l.take (kH key (key x) l)++x::l.drop (kH key (key x) l)
theorem eM {α:Type}(key:α→Int)(x:α)(l:List α):(eo key x l).Perm (l++[x]):=by
 unfold eo;have h:l++[x]=(l.take (kH key (key x) l)++l.drop (kH key (key x) l))++[x]:=by rw[XE]
 rw[h,WE];refine List.Perm.append_left _ ?_;exact(List.perm_append_singleton _ _).symm
theorem kl {α:Type}{key:α→Int}{x y:α}{l:List α}:y∈eo key x l↔y=x∨y∈l:=by
 rw[(eM key x l).mem_iff];simp[or_comm]
theorem fT {α:Type}(key:α→Int)(x:α)(l:List α):(eo key x l).length=l.length+1:=by
 rw[(eM key x l).length_eq];simp
theorem eE {α:Type}{key:α→Int}{x:α}{l:List α}(hs:l.Pairwise fun a b=>key a < key b)(hn:∀y∈l,key y≠key x):(eo key x l).Pairwise fun a b=>key a < key b:=by
 have vl:∀y∈l.take (kH key (key x) l),key y < key x:=by
  intro y hy;obtain⟨i,hi,rfl⟩:=W9.1 hy;rw[YE];have:=List.not_of_lt_findIdx (show i < kH key (key x) l by rw[V2]at hi;omega);simp at this;exact this
 have Ek:∀y∈l.drop (kH key (key x) l),key x < key y:=by
  intro y hy;have TS:=WL hy;obtain⟨i,hi,rfl⟩:=W9.1 hy;rw[List.getElem_drop]at TS ⊢;rw[Wt]at hi;have hlt:kH key (key x) l < l.length:=by omega
  have h0:=List.findIdx_getElem (xs:=l) (p:=fun y=>decide (key x≤key y)) (w:=hlt);simp only[decide_eq_true_eq]at h0;change key x≤key (l[kH key (key x) l]'hlt)at h0;have bq:=hn _ TS;rcases Yk i with h|h
  ·subst h;simp only[Wz]at bq ⊢;omega
  ·have:=WG.1 hs _ (kH key (key x) l+i) hlt (by omega) (by omega);omega
 unfold eo;rw[X3,Xz];refine⟨hs.sublist (YZ _ _),⟨Ek,hs.sublist (List.drop_sublist _ _)⟩,fun a ha b hb=>?_⟩;rcases WI.1 hb with rfl|hb
 ·exact vl a ha
 ·have:=vl a ha;have:=Ek b hb;omega
def Vpc.zero:Vpc:=⟨0,[],[]⟩
theorem Vpc.zero_le:au (.agg [.v (.int .i64 0),.v (.slice none 0 0),.v (.slice none 0 0)]) (.agg (aG Vpc.zero)):=by repeat(first|exact au.refl _|exact au.nil _|(refine au.tup ?_)|(refine au.agg ?_ rfl)|exact trivial|(refine And.intro ?_ ?_))
structure VpcOK (v:Vpc):Prop where
 n4:v.ranges.length≤4
 n6:v.subs.length≤6
 n8:∀s∈v.subs,s.faces.length≤8∧∀f∈s.faces,f.addrs.length≤4
 id:du v.id=true
 rr:v.ranges.Pairwise fun a b=>a.at_.at_ < b.at_.at_
 rs:v.subs.Pairwise fun a b=>a.id < b.id
 ranges:∀r∈v.ranges,eU r=true
 subs:∀s∈v.subs,n7 v s=true
 ar:fm [] (v.ranges.map (·.at_))=true
 as_:fm [] (v.subs.map (·.at_))=true
theorem MG {v:Vpc}:cq v=0↔pa v=false∧we v=true∧fm [] (v.ranges.map (·.at_))=true∧fm [] (v.subs.map (·.at_))=true:=by
 unfold cq;generalize fm [] (v.ranges.map (·.at_))=A;generalize fm [] (v.subs.map (·.at_))=B;cases pa v<;>cases we v<;>cases A<;>cases B<;>simp
theorem bt {v:Vpc}(h:cq v=0):VpcOK v:=by
 obtain⟨h1,h2,h3,h4⟩:=MG.1 h;obtain⟨a,b,c⟩:=zN h1;unfold we at h2;simp only[Wd,Wx,gy]at h2;exact⟨a,b,c,h2.1.1,h2.1.2.1,h2.1.2.2,h2.2.1,h2.2.2,h3,h4⟩
theorem kW {r:Rng}(h:eU r=true):r.at_.right=true:=by
 unfold eU at h;simp only[Wd,beq_iff_eq]at h;simp[Pfx.right,bQ,h.2]
theorem zR {p q:Pfx}(hp:p.right=true)(hq:q.right=true)(h:p.meets q=false):p.at_≠q.at_:=fun e=>by
 have b1:=p.hi_bd hp;have b2:=q.hi_bd hq;rw[qn.2 ⟨hp,hq,by omega,by omega⟩]at h;cases h
def mr (v:Vpc)(r:Rng):Int:=
 if chk r.at_.at_ r.at_.len≠0∨du r.pool=false then 1 else
 if (v.ranges.any fun q=>q.at_.meets r.at_)=true then 6 else if v.ranges.length=4 then 2 else 0
def cU (v:Vpc)(r:Rng):Vpc × Int:=
 if cq v≠0 then (Vpc.zero,cq v)else if mr v r≠0 then (Vpc.zero,mr v r)else ({v with ranges:=eo (·.at_.at_) r v.ranges},0)
theorem zS:∀(pre l:List Pfx),fm pre l=true↔l.Pairwise (fun a b=>b.meets a=false)∧∀a∈pre,∀b∈l,b.meets a=false
 |pre,[]=>by simp[fm]
 |pre,p::l=>by
  simp only[fm,Wd,Bool.not_eq_true',Xu,Bool.not_eq_true,zS (pre++[p]) l,Xz,WJ,WI,List.not_mem_nil,or_false];constructor
  ·rintro⟨h1,h2,h3⟩;refine⟨⟨fun b hb=>h3 p (.inr rfl) b hb,h2⟩,fun a ha b hb=>?_⟩;rcases hb with rfl|hb
   ·exact h1 a ha
   ·exact h3 a (.inl ha) b hb
  ·rintro⟨⟨h1,h2⟩,h3⟩;refine⟨fun x hx=>h3 x hx p (.inl rfl),h2,fun a ha b hb=>?_⟩;rcases ha with ha|rfl
   ·exact h3 a ha b (.inr hb)
   ·exact h1 b hb
theorem zT {l:List Pfx}:fm [] l=true↔l.Pairwise (fun a b=>b.meets a=false):=by
 rw[zS];simp
def iW (ents:List (List Int × Int)):Nat→Int→Int→Prop
 |0,x,r=>kN ents [x]=some x∧r=x
 |n+1,x,r=>∃y,kN ents [x]=some y∧y≠x∧iW ents n y r
theorem xv (ents:List (List Int × Int))(n:Nat)(x r:Int)(h:iW ents n x r):
 MSpec prog 218 [.mref 0,.d (.v (.int .i64 x))] [.mp 1 false ents] (.d (.v (.int .i64 r))) [.mp 1 false ents]:=by
 refine mj func218 ntmps218 results218 ?_;refine aF ?_<;>intros;refine cp ah av (fun m e h=>∃(y:Int),iW ents m y r∧e=[(4,.d (.v (.int .i64 0))),(1,.d (.v (.int .i64 y))),(0,.mref 0)]∧h=[.mp 1 false ents]) _ _ _ ⟨x,h,rfl,rfl⟩ (wf) ?_;rintro m e h ⟨y,hy,rfl,rfl⟩ C hC;cases m with
 |zero=>
  obtain⟨h1,rfl⟩:=hy;refine aF ?_<;>intros;all_goals exact aP rfl rfl
 |succ m=>
  obtain⟨z,h1,h2,h3⟩:=hy;have bq:(z !=y)=true:=by simpa using h2
  replace h3:=VZ h3;replace h2:=VZ h2;refine aF ?_<;>intros;exact hC _ _ _ _ _ (Nat.lt_succ_self _) ⟨z,h3.out,rfl,rfl⟩ (wf)
def xw (v w:Vpc):Bool:=v.ranges.any fun r=>w.ranges.any fun q=>r.at_.meets q.at_
theorem Fr (q r:Rng):ae prog 271 [.agg (cf q),.ept (cf r)] (.v (.bool (r.at_.meets q.at_))):=by
 have hm:ae prog 124 [.agg (aL r.at_),.agg (aL q.at_)] (.v (.bool (r.at_.meets q.at_))):=m4 _ _;refine pj func271 ntmps271 results271 ?_;exact bx
theorem HX (r:Rng)(w:Vpc)(hw:w.ranges.length≤1000000000):ae prog 270 [.agg (cf r),.ept (aG w)] (.v (.bool (w.ranges.any fun q=>r.at_.meets q.at_))):=by
 have hc:=kU kf (fun q=>r.at_.meets q.at_) w.ranges 271 [.ept (cf r)] hw (fun q _=>Fr q r);refine pj func270 ntmps270 results270 ?_;exact bx
theorem KR (v w:Vpc)(hv:v.ranges.length≤1000000000)(hw:w.ranges.length≤1000000000):ae prog 219 [.agg (aG v),.agg (aG w)] (.v (.bool (xw v w))):=by
 have hc:=kU kf (fun r=>w.ranges.any fun q=>r.at_.meets q.at_) v.ranges 270 [.ept (aG w)] hv (fun r _=>HX r w hw);refine pj func219 ntmps219 results219 ?_;exact bx
def Bi:List Int→Int
 |[]=>0
 |x::l=>if x=0 then Bi l else x
theorem HY {l:List Int}{k:Nat}{x:Int}(h:l[k]? =some x):Bi (l.drop k)=if x=0 then Bi (l.drop (k+1))else x:=by rw[pf h,Bi]
theorem RV (l:List Int)(hl:l.length≤1000000000):ae prog 216 [.sl 1 (l.map dI)] (.v (.int .i64 (Bi l))):=by
 obtain⟨R,hR⟩:∃R,R=Bi l:=⟨_,rfl⟩;rw[←hR];replace hR:=VZ hR;refine pj func216 ntmps216 results216 ?_;refine aF ?_<;>intros;refine bP ah av l (fun k=>Bi l=Bi (l.drop k)) (fun k=>[(8,.d (.v (.int .i64 k))),(7,.d (.v (.int .i64 l.length))),(6,.d (.sl 1 (l.map dI))),(3,.d (.v (.int .i64 0))),(2,.d (.v (.int .i64 0)))]) (fun _=>[]) rfl (wf) ?_ ?_
 ·intro k x hx hk hI C hC;have g8:(k:Int) < (l.length:Int):=by omega
  have ed:=wi k (by omega);rw[HY hx]at hI;by_cases h0:x=0
  ·rw[if_pos h0]at hI;have bq:(x !=0)=false:=by simp[h0]
   replace hI:=VZ hI;replace h0:=VZ h0;refine aF ?_<;>intros;exact hC _ _ hI.out (wf)
  ·rw[if_neg h0]at hI;have bq:(x !=0)=true:=by simpa using h0
   have hr:R=x:=by rw[hR.out,hI]
   rw[hr];replace hr:=VZ hr;replace hI:=VZ hI;replace h0:=VZ h0;exact bx;all_goals exact au.refl _
 ·intro hI C;rw[Yi]at hI;have hr:R=0:=by rw[hR.out,hI];rfl
  rw[hr];replace hr:=VZ hr;replace hI:=VZ hI;exact bx;all_goals exact au.refl _
def tu (l m:Lnk):Int:=Bi [dx l.a m.a,dx l.b m.b]
theorem KS (l m:Lnk):ae prog 127 [.agg (cA l),.agg (cA m)] (.v (.int .i64 (tu l m))):=by
 have h1:=kj l.a m.a;have h2:=kj l.b m.b;have h3:=RV [dx l.a m.a,dx l.b m.b] (by simp);simp only[V1,V5,dI]at h3;unfold tu;generalize dx l.a m.a=A at*;generalize dx l.b m.b=B at*;refine pj func127 ntmps127 results127 ?_;exact bx
def pg (a b:Int):Lnk:=⟨if b < a then b else a,if a < b then b else a⟩
theorem r8 (v:Vpc)(id:Int):ae prog 215 [.agg (aG v),.v (.int .i64 id)] (.v (.int .i64 (dx v.id id))):=by
 have h1:=kj v.id id;refine pj func215 ntmps215 results215 ?_;exact bx
theorem ph {α:Type}{enc:α→List D}(dA:∀x,(enc x).length=3)(key:α→Int)(l:List α)(t:Int)(g:Nat)(caps:List D)(hl:l.length≤1000000000)(hs:l.Pairwise fun a b=>key a < key b)(hc:∀x∈l,ae prog g (.agg (enc x):: .v (.int .i64 t)::caps) (.v (.int .i64 (dx (key x) t)))):
 ae prog 214 [.sl 3 (l.map enc),.v (.int .i64 t),.clo g caps] (.tup [.v (.int .i64 (kH key t l)),.v (.bool (o9 key t l))]):=by
 refine pj func214 ntmps214 results214 ?_;refine aF ?_<;>intros;refine cp ah av (fun m e h=>∃i j:Nat,i≤j∧j≤l.length∧(∀q (hq:q < l.length),q < i→key l[q] < t)∧(∀q (hq:q < l.length),j≤q→t≤key l[q])∧m=j - i∧
  e=[(10,.d (.v (.int .i64 j))),(9,.d (.v (.int .i64 i))),(8,.d (.v (.int .i64 l.length))),(7,.d (.v (.bool false))),(6,.d (.v (.int .i64 0))),(2,.d (.clo g caps)),(1,.d (.v (.int .i64 t))),(0,.d (.sl 3 (l.map enc)))]∧h=[]) _ _ _ ⟨0,l.length,Wr _,Wa _,fun q hq h=>absurd h (XW _),fun q hq h=>by omega,rfl,rfl,rfl⟩ ?_ ?_
 ·exact wf (x:=[]) (hh:=rfl) (he:=⟨rfl,rfl,rfl,rfl,rfl,rfl,rfl,rfl,trivial⟩)
 ·rintro m e h ⟨i,j,hij,hj,jq,jN,rfl,rfl,rfl⟩ CL kI;by_cases hlt:i < j
  ·obtain⟨q,hq⟩:∃q,q=(i+j) / 2:=⟨_,rfl⟩;have Em:q < l.length:=by omega
   obtain⟨x,hx⟩:∃x,l[q]? =some x:=⟨_,VY Em⟩;have lK:l[q]=x:=by rw[VY Em]at hx;exact WD.inj hx
   have ej:(i:Int) < (j:Int):=by omega
   have cJ:IntKind.i64.wrap ((i:Int)+(j:Int))=((i+j:Nat):Int):=by rw[IntKind.wrap_i64];omega
   have cN:IntKind.u64.wrap ((i+j:Nat):Int)=((i+j:Nat):Int):=by rw[ta];omega
   have Gg:(((i+j:Nat):Int)).fdiv (2 ^ min 1 64)=(q:Int):=by
    rw[hq,show (min 1 64:Nat)=1 from rfl,Zc,Int.pow_zero,Int.one_mul,Yl _ (by omega)];omega
   have lF:IntKind.i64.wrap (q:Int)=(q:Int):=by rw[IntKind.wrap_i64];omega
   have JA:=wi q (by omega);have bc:=dA x;have jp:(enc x).take 3=enc x:=Wj (by omega);have gI:=hc x (V0 hx);have Gr:=o8 (key x) t;have TU:i≤q∧q < j:=by omega
   replace hq:=VZ hq;by_cases hk:key x < t
   ·have g8:decide (key x < t)=true:=by simpa using hk
    refine aF ?_<;>intros;refine kI _ _ _ _ _ ?_ ⟨q+1,j,by omega,hj,?_,jN,rfl,rfl,rfl⟩ (wf (x:=[]) (hh:=rfl) (he:=⟨rfl,rfl,rfl,rfl,rfl,rfl,rfl,rfl,trivial⟩))
    ·omega
    ·intro q' hq' F6;rcases Wv q' q with h1|h1
     ·have:=WG.1 hs q' q hq' Em h1;rw[lK]at this;omega
     ·obtain rfl:q'=q:=by omega
      rw[lK];exact hk
   ·have g8:decide (key x < t)=false:=by simpa using hk
    refine aF ?_<;>intros;refine kI _ _ _ _ _ ?_ ⟨i,q,by omega,by omega,jq,?_,rfl,rfl,rfl⟩ (wf (x:=[]) (hh:=rfl) (he:=⟨rfl,rfl,rfl,rfl,rfl,rfl,rfl,rfl,trivial⟩))
    ·omega
    ·intro q' hq' F6;rcases Wv q q' with h1|h1
     ·have:=WG.1 hs q q' Em hq' h1;rw[lK]at this;omega
     ·obtain rfl:q'=q:=by omega
      rw[lK];omega
  ·obtain rfl:i=j:=by omega
   have mN:=qi hj jq jN;have pL:o9 key t l=match l[i]? with|some x=>key x==t|none=>false:=by unfold o9;rw[mN];all_goals(cases l[i]? <;>rfl)
   replace mN:=VZ mN;replace pL:=VZ pL;by_cases g7:i < l.length
   ·obtain⟨x,hx⟩:∃x,l[i]? =some x:=⟨_,VY g7⟩;have JB:decide ((i:Int) < (l.length:Int))=true:=by simpa using g7
    have bc:=dA x;have jp:(enc x).take 3=enc x:=Wj (by omega);have gI:=hc x (V0 hx);have TV:=qh (key x) t;refine aF ?_<;>intros;all_goals rw[pL.out,hx,mN.out]
    all_goals exact au.refl _
   ·have JB:decide ((i:Int) < (l.length:Int))=false:=by simpa using g7
    refine aF ?_<;>intros;all_goals rw[pL.out,mN.out,Wm (by omega)]
    all_goals exact au.refl _
def d9 (n:Net)(id:Int):Option Vpc:=n.vpcs.find? fun v=>v.id==id
@[go_sem] def NQ (o:Option Vpc):D:=match o with|some v=> .tup [.ept (aG v),.v (.bool true)]|none=> .tup [.v (.pointer none),.v (.bool false)]
theorem HZ {l:List Vpc}{id:Int}(hs:l.Pairwise fun a b=>a.id < b.id){v:Vpc}(hv:l[kH (fun v:Vpc=>v.id) id l]? =some v)(he:v.id=id):l.find? (fun v=>v.id==id)=some v:=by
 rw[List.find?_eq_some_iff_getElem];obtain⟨hlt,hg⟩:=V3.1 hv;refine⟨by simpa using he,_,hlt,hg,fun j hj=>?_⟩;have:=WG.1 hs j _ (by omega) hlt hj;rw[hg]at this;simp;omega
theorem KU {l:List Vpc}{id:Int}(hs:l.Pairwise fun a b=>a.id < b.id)(h:o9 (fun v:Vpc=>v.id) id l=false):l.find? (fun v=>v.id==id)=none:=by
 rw[XP];intro v hv he;have TW:v.id=id:=by simpa using he
 obtain⟨j,hj,rfl⟩:=W9.1 hv;have h1:kH (fun v:Vpc=>v.id) id l=j:=qi (by omega) (fun q hq UR=>by
  have:=WG.1 hs q j hq hj UR;show l[q].id < id;omega) (fun q hq TE=>by
  show id≤l[q].id;rcases Wv j q with h|h
  ·have:=WG.1 hs j q hj hq h;omega
  ·obtain rfl:q=j:=by omega
   omega)
 unfold o9 at h;rw[h1,VY hj]at h;simp[TW]at h
@[go_sem] def NR (o:Option Vpc):PV:= .d (NQ o)
theorem zU (n:Net)(id:Int)(hl:n.vpcs.length≤1000000000)(hs:n.vpcs.Pairwise fun a b=>a.id < b.id):MSpec prog 126 [.ptr 0 0,.d (.v (.int .i64 id))] [.box 34 ((fG n).map .d)] (NR (d9 n id)) [.box 34 ((fG n).map .d)]:=by
 have hb:=ph fM (fun v:Vpc=>v.id) n.vpcs id 215 [] hl hs (fun v _=>r8 v id);unfold d9;cases hB:o9 (fun v:Vpc=>v.id) id n.vpcs with
 |false=>
  rw[KU hs hB];rw[hB]at hb;clear hs;refine mj func126 ntmps126 results126 ?_;refine aF ?_<;>intros;all_goals exact aP rfl rfl
 |true=>
  obtain⟨v,hv,he⟩:∃v,n.vpcs[kH (fun v:Vpc=>v.id) id n.vpcs]? =some v∧v.id=id:=by
   unfold o9 at hB;cases hq:n.vpcs[kH (fun v:Vpc=>v.id) id n.vpcs]? with
   |none=>rw[hq]at hB;cases hB
   |some v=>rw[hq]at hB;exact⟨v,rfl,by simpa using hB⟩
  rw[HZ hs hv he];rw[hB]at hb;clear hs;replace he:=VZ he;have hlt:=(V3.1 hv).1;generalize kH (fun v:Vpc=>v.id) id n.vpcs=k at*;refine mj func126 ntmps126 results126 ?_;refine aF ?_<;>intros;all_goals exact aP rfl rfl
theorem DJ {ents:List (List Int × Int)}{a b r:Int}(hb:kN ents [b]=some b)(hr:r≠b):∀{n:Nat}{x:Int},iW ents n x r→iW (ly ents [b] a) n x r
 |0,x,h=>by
  obtain⟨h1,rfl⟩:=h;exact⟨by rw[eS,if_neg (by simpa using fun e=>hr e.symm)];exact h1,rfl⟩
 |n+1,x,h=>by
  obtain⟨y,h1,h2,h3⟩:=h;have hx:b≠x:=fun e=>by subst e;rw[hb]at h1;exact h2 (WD.inj h1).symm
  exact⟨y,by rw[eS,if_neg (by simpa using hx)];exact h1,h2,DJ hb hr h3⟩
theorem zV {ents:List (List Int × Int)}{a b:Int}(ha:kN ents [a]=some a)(hb:kN ents [b]=some b)(nf:a≠b):∀{n:Nat}{x:Int},iW ents n x b→iW (ly ents [b] a) (n+1) x a
 |0,x,h=>by
  obtain⟨h1,rfl⟩:=h;exact⟨a,by rw[eS,if_pos rfl],nf,by rw[eS,if_neg (by simpa using fun e=>nf e.symm)];exact ha,rfl⟩
 |n+1,x,h=>by
  obtain⟨y,h1,h2,h3⟩:=h;have hx:b≠x:=fun e=>by subst e;rw[hb]at h1;exact h2 (WD.inj h1).symm
  exact⟨y,by rw[eS,if_neg (by simpa using hx)];exact h1,h2,zV ha hb nf h3⟩
theorem qq {ents:List (List Int × Int)}{b r:Int}(hb:kN ents [b]=some b):∀{n:Nat}{x:Int},iW ents n x r→iW (ly ents [b] b) n x r
 |0,x,h=>by
  obtain⟨h1,rfl⟩:=h;refine⟨?_,rfl⟩;rw[eS];split
  ·rename_i e;simp at e;rw[e]
  ·exact h1
 |n+1,x,h=>by
  obtain⟨y,h1,h2,h3⟩:=h;refine⟨y,?_,h2,qq hb h3⟩;rw[eS,if_neg]
  ·exact h1
  ·intro e;simp at e;subst e;rw[hb]at h1;exact h2 (WD.inj h1).symm
def DK (ids:List Int)(ents:List (List Int × Int))(F:Int→Int):Prop:=∀x∈ids,(∃n,iW ents n x (F x))∧F x∈ids∧kN ents [F x]=some (F x)
def DL (F:Int→Int)(l:Lnk):Int→Int:=fun x=>if F x=F l.b then F l.a else F x
def pi (s:List (List Int × Int) × (Int→Int))(l:Lnk):List (List Int × Int) × (Int→Int):=(ly s.1 [s.2 l.b] (s.2 l.a),DL s.2 l)
theorem H0 {ids:List Int}{ents:List (List Int × Int)}{F:Int→Int}{l:Lnk}(h:DK ids ents F)(ha:l.a∈ids)(hb:l.b∈ids):DK ids (ly ents [F l.b] (F l.a)) (DL F l):=by
 obtain⟨-,fa,ra⟩:=h l.a ha;obtain⟨-,fb,rb⟩:=h l.b hb;intro x hx;obtain⟨⟨n,hn⟩,fx,rx⟩:=h x hx;unfold DL;by_cases nf:F l.a=F l.b
 ·rw[nf];by_cases uA:F x=F l.b
  ·rw[if_pos uA,←uA];exact⟨⟨n,qq rx hn⟩,fx,by rw[eS,if_pos rfl]⟩
  ·rw[if_neg uA];exact⟨⟨n,qq rb hn⟩,fx,by rw[eS,if_neg (by simpa using fun e=>uA e.symm)];exact rx⟩
 ·by_cases uA:F x=F l.b
  ·rw[if_pos uA];rw[uA]at hn;exact⟨⟨n+1,zV ra rb nf hn⟩,fa,by rw[eS,if_neg (by simpa using fun e=>nf e.symm)];exact ra⟩
  ·rw[if_neg uA];exact⟨⟨n,DJ rb uA hn⟩,fx,by rw[eS,if_neg (by simpa using fun e=>uA e.symm)];exact rx⟩
def km (vs:List Vpc):List (List Int × Int):=vs.foldl (fun e v=>ly e [v.id] v.id) []
theorem iX {α β:Type}{f:β→α→β}{b:β}{l:List α}{k:Nat}{x:α}(h:l[k]? =some x):(l.take (k+1)).foldl f b=f ((l.take k).foldl f b) x:=by rw[aj h,X9];rfl
theorem H1 (l:List Vpc)(e:List (List Int × Int))(x:Int):kN (l.foldl (fun e v=>ly e [v.id] v.id) e) [x]=if x∈l.map (·.id)then some x else kN e [x]:=by
 induction l generalizing e with
 |nil=>simp
 |cons v l ih=>
  rw[XA,ih,eS];by_cases h1:x∈l.map (·.id)
  ·rw[if_pos h1,if_pos (by simp only[V1,WI];exact .inr h1)]
  ·rw[if_neg h1];by_cases h2:v.id=x
   ·subst h2;simp
   ·rw[if_neg (by simpa using h2),if_neg];simp only[V1,WI,not_or];exact⟨fun e=>h2 e.symm,h1⟩
theorem PX (vs:List Vpc):DK (vs.map (·.id)) (km vs) (fun x=>x):=fun x hx=>by
 have:=H1 vs [] x;rw[if_pos hx]at this;exact⟨⟨0,this,rfl⟩,hx,this⟩
def Rs (n:Net):List (List Int × Int) × (Int→Int):=n.links.foldl pi (km n.vpcs,fun x=>x)
theorem MH {n:Net}(hl:∀l∈n.links,l.a∈n.vpcs.map (·.id)∧l.b∈n.vpcs.map (·.id))(k:Nat):DK (n.vpcs.map (·.id)) ((n.links.take k).foldl pi (km n.vpcs,fun x=>x)).1 ((n.links.take k).foldl pi (km n.vpcs,fun x=>x)).2:=by
 induction k with
 |zero=>exact PX n.vpcs
 |succ k ih=>
  by_cases hk:k < n.links.length
  ·have hx:=VY hk;rw[iX hx];have:=hl _ (W8 hk);exact H0 ih this.1 this.2
  ·rw[Wj (by omega)]at ih ⊢;exact ih
def H2 (pid:Int)(m:List (List Int × Int))(l:Lse):List (List Int × Int):=if l.kind=1 then ly m [l.at_.at_,l.at_.len,pid] l.owner else m
def MI (m:List (List Int × Int))(p:Pol):List (List Int × Int):=p.leases.foldl (H2 p.id) m
def DM (b:Bok):List (List Int × Int):=b.pools.foldl MI []
theorem DN (b:Bok)(h1:b.pools.length≤1000000000)(h2:∀p∈b.pools,p.leases.length≤1000000000):
 MSpec prog 60 [.d (.agg (bC b))] [] (.mref 1) [.gone,.mp 3 true (DM b)]:=by
 replace h2:=VZ h2;refine mj func60 ntmps60 results60 ?_;refine aF ?_;refine bP ah av b.pools (fun _=>True) (fun k=>[(12,.d (.v (.int .i64 k))),(11,.d (.v (.int .i64 b.pools.length))),(10,.d (.sl 9 (b.pools.map al))),(3,.mref 1)])
  (fun k=>[.gone,.mp 3 true ((b.pools.take k).foldl MI [])]) trivial ?_ ?_ ?_
 ·exact(aN 0 (by simp)).trans wf
 ·intro k p hp hk _ C hC;have g8:(k:Int) < (b.pools.length:Int):=by omega
  have ed:=wi k (by omega);have lG:=h2.out p (V0 hp);have hs:(b.pools.take (k+1)).foldl MI []=p.leases.foldl (H2 p.id) ((b.pools.take k).foldl MI []):=by rw[iX hp];rfl
  replace hs:=VZ hs;generalize (b.pools.take k).foldl MI []=M at*;refine aF ?_;refine bP ah av p.leases (fun _=>True) (fun j=>[(19,.d (.v (.int .i64 j))),(18,.d (.v (.int .i64 p.leases.length))),(17,.d (.sl 5 (p.leases.map aW))),(5,.ptr 2 0),(12,.d (.v (.int .i64 k))),(11,.d (.v (.int .i64 b.pools.length))),(10,.d (.sl 9 (b.pools.map al))),(3,.mref 1)])
   (fun j=>[.gone,.mp 3 true ((p.leases.take j).foldl (H2 p.id) M),.box 83 ((al p).map .d)]) trivial wf ?_ ?_
  ·intro j l hl hj _ D hD;have oF:(j:Int) < (p.leases.length:Int):=by omega
   have Bc:=wi j (by omega);have ht:(p.leases.take (j+1)).foldl (H2 p.id) M=if l.kind=1 then ly ((p.leases.take j).foldl (H2 p.id) M) [l.at_.at_,l.at_.len,p.id] l.owner else (p.leases.take j).foldl (H2 p.id) M:=by rw[iX hl];rfl
   generalize (p.leases.take j).foldl (H2 p.id) M=Mj at*;by_cases uw:l.kind=1
   ·rw[if_pos uw]at ht;have e1:(l.kind==1)=true:=by simpa using uw
    replace ht:=VZ ht;replace uw:=VZ uw;refine aF ?_;exact hD _ _ trivial (wf (hh:=by rw[ht.out];rfl))
   ·rw[if_neg uw]at ht;have e1:(l.kind==1)=false:=by simpa using uw
    replace ht:=VZ ht;replace uw:=VZ uw;refine aF ?_;exact hD _ _ trivial (wf (hh:=by rw[ht.out];rfl))
  ·intro _ D;rw[V4];refine aF ?_;exact hC _ _ trivial (wf (hh:=by rw[hs.out];rfl))
 ·intro _ C;rw[V4];refine aF ?_;exact aP rfl rfl
def H3 (E:List (List Int × Int))(id:Int)(r:Rng):Bool:=(kN E [r.at_.at_,r.at_.len,r.pool]).getD 0==id
def pk (vs:List Vpc):Nat:=(vs.map (·.ranges.length)).sum
def iY (vs:List Vpc)(o:Int):Bool:=vs.any (·.id==o)
def tv (E:List (List Int × Int))(vs:List Vpc):Bool:=vs.all fun v=>v.ranges.all (H3 E v.id)
def iZ (E:List (List Int × Int))(p:Int→Bool)(i:Nat):Bool:=match E[i]? with|some kv=>p kv.2|none=>false
theorem BZ (E:List (List Int × Int))(p:Int→Bool):(WC E.length).countP (iZ E p)=E.countP fun kv=>p kv.2:=by
 induction E with
 |nil=>rfl
 |cons a l ih=>
  rw[Wc,List.range_succ_eq_map,List.countP_cons,List.countP_map,List.countP_cons];have:(iZ (a::l) p∘Nat.succ)=iZ l p:=by funext i;rfl
  rw[this,ih];rfl
theorem Fs {n:Nat}{seen:List Nat}(hn:seen.Nodup)(hl:∀i∈seen,i < n)(ha:∀i,i < n→i∈seen):seen.Perm (WC n):=
 (List.perm_ext_iff_of_nodup hn List.nodup_range).2 fun i=>by
  rw[Xk];exact⟨hl i,ha i⟩
theorem H4 {E:List (List Int × Int)}{p:Int→Bool}{seen:List Nat}(hn:seen.Nodup)(hl:∀i∈seen,i < E.length)(ha:∀i,i < E.length→i∈seen):seen.countP (iZ E p)=E.countP fun kv=>p kv.2:=by
 rw[←BZ];exact List.Perm.countP_eq _ (Fs hn hl ha)
def zW (n:Nat)(seen:List Nat):Nat:=((WC n).filter fun i=>!seen.contains i).length
theorem DO {n i:Nat}{seen:List Nat}(hi:i < n)(hs:i∉seen):zW n (seen++[i]) < zW n seen:=by
 unfold zW;have un:((WC n).filter fun j=>!(seen++[i]).contains j)=((WC n).filter fun j=>!seen.contains j).filter (fun j=>!(j==i)):=by
  rw[XN];refine YD fun j _=>?_;by_cases h:j=i
  ·subst h;simp
  ·by_cases h2:j∈seen<;>simp[h,h2]
 rw[un];refine List.length_filter_lt_length_iff_exists.2 ⟨i,?_,by simp⟩;rw[List.mem_filter];exact⟨Xk.2 hi,by simpa using hs⟩
theorem Ft {vs:List Vpc}{k:Nat}{v:Vpc}(h:vs[k]? =some v):pk (vs.take (k+1))=pk (vs.take k)+v.ranges.length:=by
 unfold pk;rw[aj h,V6,List.sum_append];simp
theorem KV {vs:List Vpc}{n:Nat}(h:∀v∈vs,v.ranges.length≤n):pk vs≤vs.length*n:=by
 induction vs with
 |nil=>simp[pk]
 |cons v vs ih=>
  have h1:=h v (by simp);have h2:=ih fun x hx=>h x (by simp[hx]);simp only[pk,V1,List.sum_cons,Wc]at*;rw[XV];omega
theorem KW (m:List (List Int × Int))(k:List Int)(v:Int):(ly m k v).length≤m.length+1:=by
 induction m with
 |nil=>simp[ly]
 |cons a m ih=>
  unfold ly;split
  ·simp
  ·simp only[Wc];omega
theorem KX (l:List Lse)(pid:Int):∀(m:List (List Int × Int)),(l.foldl (H2 pid) m).length≤m.length+l.length:=by
 induction l with
 |nil=>intro m;simp
 |cons a l ih=>
  intro m;rw[XA];have h1:=ih (H2 pid m a);have h2:(H2 pid m a).length≤m.length+1:=by
   unfold H2;split
   ·exact KW _ _ _
   ·omega
  simp only[Wc];omega
theorem KY {b:Bok}{n:Nat}(h:∀p∈b.pools,p.leases.length≤n):(DM b).length≤b.pools.length*n:=by
 unfold DM;have key:∀(l:List Pol) (m:List (List Int × Int)),(∀p∈l,p.leases.length≤n)→(l.foldl MI m).length≤m.length+l.length*n:=by
  intro l;induction l with
  |nil=>intro m _;simp
  |cons a l ih=>
   intro m hl;rw[XA];have h1:=ih (MI m a) fun p hp=>hl p (by simp[hp]);have h2:=KX a.leases a.id m;have h3:=hl a (by simp);simp only[Wc];rw[XV];unfold MI at*;omega
 have:=key b.pools [] h;simpa using this
structure Lm (ls:List Nat)(P:Program)(g:Nat)(args:List PV)(h0:List Chunk)(r:PV)(h1:List Chunk):Prop where
 n:Ln ls P g args h0 r h1
structure Lo (ls:List Nat)(P:Program)(g:Nat)(args:List PV)(h0:List Chunk)(r:PV)(h1:List Chunk):Prop where
 n:Ln ls P g args h0 r h1
theorem rK {Q1 Q2 Q3 Q4 Q5 Q6 Q7 Q8 P:Prop}(q1:Q1)(q2:Q2)(q3:Q3)(q4:Q4)(q5:Q5)(q6:Q6)(q7:Q7)(q8:Q8)(h:Hd Q1→Hd Q2→Hd Q3→Hd Q4→Hd Q5→Hd Q6→Hd Q7→Hd Q8→P:=by
 intro q1 q2 q3 q4 q5 q6 q7 q8;first|((repeat' (first|(with_reducible refine And.intro ?_ ?_)|(with_reducible refine dw (fun ek=>?_) (fun ek=>?_))|(with_reducible refine aQ (fun ek=>?_) (fun ek=>?_))|(with_reducible refine bT (by kernel_rfl))|simp -dsimp only[go_sem,seval, *,undef,V4,WZ,bne_self_eq_false,beq_self_eq_true,Wk,Xi,Xp]|((with_reducible refine bU ?_);simp -dsimp only[go_sem,seval, *,undef,V4,WZ,bne_self_eq_false,beq_self_eq_true,Wk,Xi,Xp];first|refine aS (by assumption) (by first|exact .inl rfl|exact .inr rfl) ?_|(refine aR (by assumption) ?_ ?_ ?_;(solve|(repeat(first|exact au.refl _|exact au.nil _|(refine au.tup ?_)|(refine au.agg ?_ rfl)|exact trivial|(refine And.intro ?_ ?_))));(solve|exact .inl rfl|exact .inr rfl)))|(refine rc (by assumption) ?_ ?_ ?_ ?_ ?_ ?_;(solve|rfl|simp only[go_sem,seval]);(solve|rfl);(solve|decide);(solve|simp);(solve|simp only[go_sem,seval,aX]))|(refine rc (Lm.n (by assumption)) ?_ ?_ ?_ ?_ ?_ ?_;(solve|rfl|simp only[go_sem,seval]);(solve|rfl);(solve|decide);(solve|simp);(solve|simp only[go_sem,seval,aX]))|(refine rc (Lo.n (by assumption)) ?_ ?_ ?_ ?_ ?_ ?_;(solve|rfl|simp only[go_sem,seval]);(solve|rfl);(solve|decide);(solve|simp);(solve|simp only[go_sem,seval,aX]))|(refine qg (by assumption) ?_ ?_ ?_ ?_ ?_ ?_;(solve|rfl|simp only[go_sem,seval]);(solve|rfl);(solve|decide);(solve|simp);(solve|simp only[go_sem,seval,aX]))|omega|exact decide_eq_true (by omega)|exact au.refl _));all_goals((repeat revert ek);first|(with_reducible exact q1.out)|(with_reducible exact q2.out)|(with_reducible exact q3.out)|(with_reducible exact q4.out)|(with_reducible exact q5.out)|(with_reducible exact q6.out)|(with_reducible exact q7.out)|(with_reducible exact q8.out)))|fail)
 (e1:Or1 Q1:=by first|(with_reducible exact(Or1.mk:Or1 True))|exact Or1.mk) (e2:Or1 Q2:=by first|(with_reducible exact(Or1.mk:Or1 True))|exact Or1.mk) (e3:Or1 Q3:=by first|(with_reducible exact(Or1.mk:Or1 True))|exact Or1.mk) (e4:Or1 Q4:=by first|(with_reducible exact(Or1.mk:Or1 True))|exact Or1.mk) (e5:Or1 Q5:=by first|(with_reducible exact(Or1.mk:Or1 True))|exact Or1.mk) (e6:Or1 Q6:=by first|(with_reducible exact(Or1.mk:Or1 True))|exact Or1.mk) (e7:Or1 Q7:=by first|(with_reducible exact(Or1.mk:Or1 True))|exact Or1.mk) (e8:Or1 Q8:=by first|(with_reducible exact(Or1.mk:Or1 True))|exact Or1.mk):P:=h ⟨q1⟩ ⟨q2⟩ ⟨q3⟩ ⟨q4⟩ ⟨q5⟩ ⟨q6⟩ ⟨q7⟩ ⟨q8⟩
theorem RW (n:Net)(h1:n.vpcs.length≤1000000000)(h2:n.links.length≤1000000000)(hl:∀l∈n.links,l.a∈n.vpcs.map (·.id)∧l.b∈n.vpcs.map (·.id)):
 MSpec prog 217 [.d (.ept (fG n))] [] (.mref 0) [.mp 1 false (Rs n).1]:=by
 have hg:=VZ (MH hl);replace hl:=VZ hl;refine mj func217 ntmps217 results217 ?_;refine aF ?_<;>intros;refine bP ah av n.vpcs (fun _=>True) (fun k=>[(14,.d (.v (.int .i64 k))),(13,.d (.v (.int .i64 n.vpcs.length))),(12,.d (.sl 3 (n.vpcs.map aG))),(3,.mref 0),(0,.d (.ept (fG n)))]) (fun k=>[.mp 1 false (km (n.vpcs.take k))]) trivial (wf) ?_ ?_
 ·intro k v hv hk _ C hC;have g8:(k:Int) < (n.vpcs.length:Int):=by omega
  have ed:=wi k (by omega);have hs:km (n.vpcs.take (k+1))=ly (km (n.vpcs.take k)) [v.id] v.id:=iX hv;replace hs:=VZ hs;refine aF ?_<;>intros;exact hC _ _ trivial (wf (hh:=(by rw[hs.out];rfl)))
 ·intro _ C;rw[V4];refine aF ?_<;>intros;refine bP ah av n.links (fun _=>True) (fun k=>[(29,.d (.v (.int .i64 k))),(28,.d (.v (.int .i64 n.links.length))),(27,.d (.sl 2 (n.links.map cA))),(3,.mref 0)]) (fun k=>[.mp 1 false ((n.links.take k).foldl pi (km n.vpcs,fun x=>x)).1]) trivial (wf) ?_ ?_
  ·intro k l rD hk _ C hC;have g8:(k:Int) < (n.links.length:Int):=by omega
   have ed:=wi k (by omega);have hs:((n.links.take (k+1)).foldl pi (km n.vpcs,fun x=>x)).1=ly ((n.links.take k).foldl pi (km n.vpcs,fun x=>x)).1 [((n.links.take k).foldl pi (km n.vpcs,fun x=>x)).2 l.b] (((n.links.take k).foldl pi (km n.vpcs,fun x=>x)).2 l.a):=by rw[iX rD];rfl
   have hm:=hl.out l (V0 rD);obtain⟨⟨na,ha⟩,-,-⟩:=hg.out k l.a hm.1;obtain⟨⟨nb,hb⟩,-,-⟩:=hg.out k l.b hm.2;generalize (n.links.take k).foldl pi (km n.vpcs,fun x=>x)=S at*;have QJ:=xv S.1 na l.a (S.2 l.a) ha;have QK:=xv S.1 nb l.b (S.2 l.b) hb;clear ha hb hm;replace hs:=VZ hs;have z1z:=Ln.mk (ls:=[0]) (QK);have z2z:=Lm.mk (Ln.mk (ls:=[0]) (QJ));refine rK ?_ ?_ ?_ ?_ ?_ ?_ ?_ ?_<;>first|(with_reducible exact True.intro)|intros
   exact hC _ _ trivial (wf (hh:=(by rw[hs.out];rfl)))
  ·intro _ C;rw[V4];refine aF ?_<;>intros;all_goals exact aP rfl rfl
def pm (n:Net):Int→Int:=(Rs n).2
def uV (n:Net)(v w:Vpc):Bool:=(pm n v.id==pm n w.id)&&xw v w
def d4 (n:Net):Bool:=(WC n.vpcs.length).all fun k=>match n.vpcs[k]? with|some v=>(n.vpcs.take k).all fun w=>!uV n v w|none=>true
theorem Fu {n:Net}{i j:Nat}{v w:Vpc}(hij:j < i)(hv:n.vpcs[i]? =some v)(hw:n.vpcs[j]? =some w)(h:uV n v w=true):d4 n=false:=by
 unfold d4;rw[X6];refine⟨i,Xk.2 (V3.1 hv).1,?_⟩;rw[hv];simp only[Bool.not_eq_true,X6];exact⟨w,V0 (i:=j) (by rw[Wo hij];exact hw),by rw[h];simp⟩
theorem B0 {n:Net}(h:∀(i:Nat) (v w:Vpc),n.vpcs[i]? =some v→w∈n.vpcs.take i→uV n v w=false):d4 n=true:=by
 unfold d4;rw[Wx];intro i hi;have hl:=Xk.1 hi;rw[VY hl];simp only[Wx];intro w hw;rw[h i _ w (VY hl) hw];rfl
theorem xx (n:Net)(h1:n.vpcs.length≤1000000000)(h2:n.links.length≤1000000000)(hr:∀v∈n.vpcs,v.ranges.length≤1000000000)(hl:∀l∈n.links,l.a∈n.vpcs.map (·.id)∧l.b∈n.vpcs.map (·.id)):
 ae prog 128 [.ept (fG n)] (.v (.bool (d4 n))):=by
 have TX:=RW n h1 h2 hl;have hg:∀x∈n.vpcs.map (·.id),∃k,iW (Rs n).1 k x (pm n x):=fun x hx=>by
  have:=(MH hl n.links.length x (by exact hx)).1;rwa [V4]at this
 replace hg:=VZ hg;replace hr:=VZ hr;clear hl;obtain⟨R,hR⟩:∃R,R=d4 n:=⟨_,rfl⟩;rw[←hR];replace hR:=VZ hR;generalize (Rs n).1=E at*;refine pj func128 ntmps128 results128 ?_;have z1z:=Ln.mk (ls:=[]) (TX);refine aF ?_<;>intros;clear TX;refine bP ah av n.vpcs (fun k=>∀(i:Nat) (v w:Vpc),i < k→n.vpcs[i]? =some v→w∈n.vpcs.take i→uV n v w=false) (fun k=>[(15,.d (.v (.int .i64 k))),(14,.d (.v (.int .i64 n.vpcs.length))),(13,.d (.sl 3 (n.vpcs.map aG))),(3,.mref 0),(2,.d (.v (.bool false))),(0,.d (.ept (fG n)))]) (fun _=>[.mp 1 false E]) (fun i v w h=>absurd h (XW _)) (wf) ?_ ?_
 ·intro k v hv hk hI C hC;have g8:(k:Int) < (n.vpcs.length:Int):=by omega
  have ed:=wi k (by omega);have Gd:k≤n.vpcs.length:=by omega
  have TY:=V0 hv;have yg:=hr.out v TY;obtain⟨nv,TZ⟩:=hg.out v.id (Wp.2 ⟨v,TY,rfl⟩);have Sv:=xv E nv v.id (pm n v.id) TZ;have hlt:(n.vpcs.take k).length=k:=by rw[V2];omega
  have Mm:((n.vpcs.map aG).take k).length=k:=by rw[←XS,Wg];exact hlt
  clear TZ;replace hI:=VZ hI;refine aF ?_<;>intros;refine bP ah av (n.vpcs.take k) (fun j=>∀w∈(n.vpcs.take k).take j,uV n v w=false) (fun j=>[(27,.d (.v (.int .i64 j))),(26,.d (.v (.int .i64 k))),(25,.d (.sl 3 ((n.vpcs.map aG).take k))),(5,.ptr 1 0),(15,.d (.v (.int .i64 k))),(14,.d (.v (.int .i64 n.vpcs.length))),(13,.d (.sl 3 (n.vpcs.map aG))),(3,.mref 0),(2,.d (.v (.bool false))),(0,.d (.ept (fG n)))]) (fun _=>[.mp 1 false E,.box 88 ((aG v).map .d)]) (fun w hw=>by simp at hw) (wf) ?_ ?_
  ·intro j w hw hj hJ C2 vm;have oF:(j:Int) < (k:Int):=by omega
   have lF:((n.vpcs.map aG).take k)[j]? =some (aG w):=by rw[←XS,V7,hw];rfl
   have Bc:=wi j (by omega);have CZ:j < k:=by omega
   have cN:n.vpcs[j]? =some w:=by rw[Wo CZ]at hw;exact hw
   have OR:=V0 cN;have US:=hr.out w OR;obtain⟨nw,T0⟩:=hg.out w.id (Wp.2 ⟨w,OR,rfl⟩);have Sw:=xv E nw w.id (pm n w.id) T0;have gh:=KR v w yg US;have cD:uV n v w=true→R=false:=fun h=>by rw[hR.out];exact Fu CZ hv cN h
   have En:uV n v w=false→∀u∈(n.vpcs.take k).take (j+1),uV n v u=false:=fun h u hu=>by
    rw[aj hw]at hu;rcases WJ.1 hu with hu|hu
    ·exact hJ u hu
    ·rw[WP.1 hu];exact h
   have f7:uV n v w=((pm n v.id==pm n w.id)&&xw v w):=rfl;clear T0 hlt Mm;replace cD:=VZ cD;replace En:=VZ En;replace f7:=VZ f7;replace hJ:=VZ hJ;replace hw:=VZ hw;generalize (n.vpcs.map aG).take k=L at*;cases e1:(pm n v.id==pm n w.id)with
   |false=>
    have hf:=VZ (En.out (by rw[f7.out,e1];rfl));have z1z:=Ln.mk (ls:=[0]) (Sv);have z2z:=Lm.mk (Ln.mk (ls:=[0]) (Sw));refine rK ?_ ?_ ?_ ?_ ?_ ?_ ?_ ?_<;>first|(with_reducible exact True.intro)|intros
    exact vm _ _ hf.out (wf)
   |true=>
    cases e2:xw v w with
    |true=>
     have hb:R=false:=cD.out (by rw[f7.out,e1,e2];rfl);rw[hb];replace hb:=VZ hb;rw[e2]at gh;have z1z:=Ln.mk (ls:=[0]) (Sv);have z2z:=Lm.mk (Ln.mk (ls:=[0]) (Sw));refine rK ?_ ?_ ?_ ?_ ?_ ?_ ?_ ?_<;>first|(with_reducible exact True.intro)|intros
     all_goals exact au.refl _
    |false=>
     have hf:=VZ (En.out (by rw[f7.out,e1,e2];rfl));rw[e2]at gh;have z1z:=Ln.mk (ls:=[0]) (Sv);have z2z:=Lm.mk (Ln.mk (ls:=[0]) (Sw));refine rK ?_ ?_ ?_ ?_ ?_ ?_ ?_ ?_<;>first|(with_reducible exact True.intro)|intros
     exact vm _ _ hf.out (wf)
  ·intro hJ C2;rw[V4]at hJ;have A6:∀(i:Nat) (u w:Vpc),i < k+1→n.vpcs[i]? =some u→w∈n.vpcs.take i→uV n u w=false:=fun i u w hi hu hw=>by
    rcases Wv i k with h|h
    ·exact hI.out i u w h hu hw
    ·obtain rfl:i=k:=by omega
     rw[hv]at hu;rw[←WD.inj hu];exact hJ w hw
   replace A6:=VZ A6;replace hJ:=VZ hJ;rw[hlt];refine aF ?_<;>intros;exact hC _ _ A6.out (wf)
 ·intro hI C;have hb:R=true:=by
   rw[hR.out];exact B0 fun i v w hv hw=>hI i v w (V3.1 hv).1 hv hw
  rw[hb];replace hb:=VZ hb;replace hI:=VZ hI;exact bx;all_goals exact au.refl _
def n9 (n:Net)(l:Lnk):Bool:=(d9 n l.a).isSome&&((d9 n l.b).isSome&&decide (l.a < l.b))
def jt:List Lnk→Bool
 |l::m::ls=>decide (tu l m < 0)&&jt (m::ls)
 |_=>true
theorem xy:∀(l:List Lnk),jt l=true↔∀j (h:j+1 < l.length),tu l[j] l[j+1] < 0
 |[]=>by simp[jt]
 |[a]=>by simp[jt]
 |a::b::l=>by
  have ih:=xy (b::l);simp only[jt,Wd,decide_eq_true_eq,ih];constructor
  ·rintro⟨h1,h2⟩ j hj;cases j with
   |zero=>exact h1
   |succ j=>exact h2 j (by simpa using hj)
  ·intro h;exact⟨h 0 (by simp),fun j hj=>h (j+1) (by simpa using hj)⟩
def pn (n:Net):Bool:=n.vpcs.all (fun v=>cq v==0)&&eT (·.id) n.vpcs
def dR (n:Net):Int:=if n.vpcs.length>6∨n.links.length>12 then 2 else if pn n&&(n.links.all (n9 n)&&(jt n.links&&d4 n))then 0 else 1
theorem i5 {n:Net}{x:Int}(h:(d9 n x).isSome=true):x∈n.vpcs.map (·.id):=by
 obtain⟨v,hv⟩:=XZ.1 h;unfold d9 at hv;have h1:=Yp hv;have h2:=List.find?_some hv;exact Wp.2 ⟨v,h1,by simpa using h2⟩
theorem mv {n:Net}(h0:¬(n.vpcs.length>6∨n.links.length>12))(h:pn n=false∨n.links.all (n9 n)=false∨jt n.links=false∨d4 n=false):dR n=1:=by
 unfold dR;rw[if_neg h0];rcases h with h|h|h|h<;>simp[h]
theorem wh {n:Net}(h0:¬(n.vpcs.length>6∨n.links.length>12))(h1:pn n=true)(h2:n.links.all (n9 n)=true)(h3:jt n.links=true)(h4:d4 n=true):dR n=0:=by
 unfold dR;rw[if_neg h0,h1,h2,h3,h4];rfl
def po (l:List Vpc):Int:=(l.getLast?.map (·.id)).getD 0
theorem oa (l:List Vpc)(v:Vpc):po (l++[v])=v.id:=by simp[po]
theorem B6 {l:List Vpc}(hs:l.Pairwise fun a b=>a.id < b.id){v:Vpc}(h:po l < v.id):(l++[v]).Pairwise fun a b=>a.id < b.id:=by
 rw[X3];refine⟨hs,by simp,fun a ha b hb=>?_⟩;rw[WP.1 hb];rcases List.eq_nil_or_concat l with rfl|⟨l',x,rfl⟩
 ·cases ha
 ·rw[List.concat_eq_append]at*;rw[oa]at h;rw[X3]at hs;rcases WJ.1 ha with ha|ha
  ·have:=hs.2.2 a ha x (by simp);omega
  ·rw[WP.1 ha];exact h
theorem Fv {l:List Vpc}{v:Vpc}(hv:1≤v.id)(h:v.id≤po l):¬(l++[v]).Pairwise fun a b=>a.id < b.id:=by
 intro hp;rw[X3]at hp;rcases List.eq_nil_or_concat l with rfl|⟨l',x,rfl⟩
 ·simp[po]at h;omega
 ·rw[List.concat_eq_append]at*;rw[oa]at h;have:=hp.2.2 x (by simp) v (by simp);omega
theorem oc {n:Net}(h:pn n=true)(k:Nat):(∀v∈n.vpcs.take k,cq v=0)∧(n.vpcs.take k).Pairwise fun a b=>a.id < b.id:=by
 unfold pn at h;simp only[Wd,Wx,gy,beq_iff_eq]at h;exact⟨fun v hv=>h.1 v (WN hv),h.2.sublist (YZ _ _)⟩
theorem zX {n:Net}(h1:∀v∈n.vpcs,cq v=0)(h2:n.vpcs.Pairwise fun a b=>a.id < b.id):pn n=true:=by
 unfold pn;simp only[Wd,Wx,gy,beq_iff_eq];exact⟨h1,h2⟩
theorem wj:∀(l:List Lnk) (x:Lnk),jt (l++[x])=(jt l&&(match l.getLast? with|some y=>decide (tu y x < 0)|none=>true))
 |[],x=>rfl
 |[a],x=>by simp[jt]
 |a::b::l,x=>by
  have ih:=wj (b::l) x;have e:(a::b::l).getLast? =(b::l).getLast? :=by simp[List.getLast?_cons_cons]
  rw[WH,WH,jt,←WH,ih,e,jt,Y0]
theorem Fw {l:List Lnk}(h:jt l=true)(k:Nat):jt (l.take k)=true:=by
 rw[xy]at h ⊢;intro j hj;rw[YE,YE];exact h j (by rw[V2]at hj;omega)
theorem Fx {α:Type}{l:List α}{j:Nat}{y:α}(h:l[j]? =some y):(l.take (j+1)).getLast? =some y:=by rw[aj h];simp
theorem tw (n:Net):ae prog 59 [.agg (fG n)] (.v (.int .i64 (dR n))):=by
 obtain⟨R,hR⟩:∃R,R=dR n:=⟨_,rfl⟩;rw[←hR];replace hR:=VZ hR;by_cases h6:n.vpcs.length>6
 ·have T1:decide ((n.vpcs.length:Int)>6)=true:=by simp;omega
  have hr:R=2:=by rw[hR.out,dR,if_pos (.inl h6)]
  rw[hr];replace hr:=VZ hr;refine pj func59 ntmps59 results59 ?_;exact bx;all_goals exact au.refl _
 by_cases T2:n.links.length>12
 ·have T1:decide ((n.vpcs.length:Int)>6)=false:=by simp;omega
  have Sx:decide ((n.links.length:Int)>12)=true:=by simp;omega
  have hr:R=2:=by rw[hR.out,dR,if_pos (.inr T2)]
  rw[hr];replace hr:=VZ hr;refine pj func59 ntmps59 results59 ?_;exact bx;all_goals exact au.refl _
 have T1:decide ((n.vpcs.length:Int)>6)=false:=by simp;omega
 have Sx:decide ((n.links.length:Int)>12)=false:=by simp;omega
 have df:¬(n.vpcs.length>6∨n.links.length>12):=by omega
 refine pj func59 ntmps59 results59 ?_;refine aF ?_<;>intros;refine bP ah av n.vpcs (fun k=>(∀v∈n.vpcs.take k,cq v=0)∧(n.vpcs.take k).Pairwise fun a b=>a.id < b.id) (fun k=>[(25,.d (.v (.int .i64 k))),(24,.d (.v (.int .i64 n.vpcs.length))),(23,.d (.sl 3 (n.vpcs.map aG))),(3,.d (.v (.int .i64 (po (n.vpcs.take k))))),(2,.d (.v (.int .i64 0))),(1,.ptr 0 0)]) (fun _=>[.box 34 ((fG n).map .d)]) (by simp) (wf) ?_ ?_
 ·intro k v hv hk hI C hC;have g8:(k:Int) < (n.vpcs.length:Int):=by omega
  have ed:=wi k (by omega);have jp:=aj hv;have C6:po (n.vpcs.take (k+1))=v.id:=by rw[jp,oa]
  have UT:=mq v;obtain⟨LA,OU⟩:∃x,x=po (n.vpcs.take k):=⟨_,rfl⟩;rw[←OU];by_cases hc:cq v=0
  ·have hid:1≤v.id:=by have:=(bt hc).id;simp[du]at this;exact this.1
   rw[hc]at UT;by_cases hle:v.id≤LA
   ·have hr:R=1:=by
     rw[hR.out];refine mv df (.inl ?_);cases hb:pn n with
     |false=>rfl
     |true=>
      have:=(oc hb (k+1)).2;rw[jp]at this;exact absurd this (Fv hid (by rw[←OU];exact hle))
    rw[hr];clear hr hI hid hC OU C6 jp;replace hc:=VZ hc;exact bx;all_goals exact au.refl _
   ·have A6:(∀v∈n.vpcs.take (k+1),cq v=0)∧(n.vpcs.take (k+1)).Pairwise fun a b=>a.id < b.id:=by
     rw[jp];exact⟨fun u hu=>by
      rcases WJ.1 hu with hu|hu
      ·exact hI.1 u hu
      ·rw[WP.1 hu];exact hc,B6 hI.2 (by rw[←OU];omega)⟩
    have mN:decide (v.id≤LA)=false:=by simpa using hle
    clear hI hid jp;replace hc:=VZ hc;replace hle:=VZ hle;replace A6:=VZ A6;replace C6:=VZ C6;replace OU:=VZ OU;refine aF ?_<;>intros;refine hC _ _ A6.out ?_;simp only[C6.out];exact wf
  ·have hr:R=1:=by
    rw[hR.out];refine mv df (.inl ?_);cases hb:pn n with
    |false=>rfl
    |true=>exact absurd ((oc hb (k+1)).1 v (by rw[jp];simp)) hc
   have VG:(cq v !=0)=true:=by simpa using hc
   rw[hr];clear hr hI hC OU C6 jp;replace hc:=VZ hc;exact bx;all_goals exact au.refl _
 ·intro hI C;rw[V4]at hI ⊢;have OV:=zX hI.1 hI.2;have pP:=hI.2;generalize po n.vpcs=LA;replace hI:=VZ hI;replace pP:=VZ pP;replace OV:=VZ OV;refine aF ?_<;>intros;refine bP ah av n.links (fun k=>(∀l∈n.links.take k,n9 n l=true)∧jt (n.links.take k)=true) (fun k=>[(44,.d (.v (.int .i64 k))),(43,.d (.v (.int .i64 n.links.length))),(42,.d (.sl 2 (n.links.map cA))),(2,.d (.v (.int .i64 0))),(1,.ptr 0 0)]) (fun _=>[.box 34 ((fG n).map .d)]) (by simp[jt]) (wf) ?_ ?_
  ·intro k l hl hk hJ C hC;have g8:(k:Int) < (n.links.length:Int):=by omega
   have ed:=wi k (by omega);have jp:=aj hl;have vn:=zU n l.a (by omega) pP.out;have rV:=zU n l.b (by omega) pP.out;have cD:n9 n l=false→R=1:=fun h=>by
    rw[hR.out];refine mv df (.inr (.inl ?_));rw[X6];exact⟨l,V0 hl,by simp[h]⟩
   have mN:n9 n l=((d9 n l.a).isSome&&((d9 n l.b).isSome&&decide (l.a < l.b))):=rfl;have Eo:n9 n l=true→jt (n.links.take (k+1))=true→(∀l∈n.links.take (k+1),n9 n l=true)∧jt (n.links.take (k+1))=true:=fun h g=>by
    refine⟨?_,g⟩;rw[jp];intro u hu;rcases WJ.1 hu with hu|hu
    ·exact hJ.1 u hu
    ·rw[WP.1 hu];exact h
   have JC:jt (n.links.take (k+1))=false→R=1:=fun h=>by
    rw[hR.out];refine mv df (.inr (.inr (.inl ?_)));cases hb:jt n.links with
    |false=>rfl
    |true=>rw[Fw hb]at h;cases h
   have Bd:=wj (n.links.take k) l;rw[←jp,hJ.2,Xt]at Bd;clear jp;replace hJ:=VZ hJ;replace cD:=VZ cD;replace JC:=VZ JC;replace Eo:=VZ Eo;cases ea:d9 n l.a with
   |none=>
    rw[ea]at vn mN;have hr:R=1:=cD.out (by rw[mN];rfl);rw[hr];clear hr mN Bd;replace ea:=VZ ea;cases eb:d9 n l.b with
    |none=>
     rw[eb]at rV;replace eb:=VZ eb;have z1z:=Ln.mk (ls:=[0]) (vn);have z2z:=Lm.mk (Ln.mk (ls:=[0]) (rV));refine rK ?_ ?_ ?_ ?_ ?_ ?_ ?_ ?_<;>first|(with_reducible exact True.intro)|intros
     all_goals exact au.refl _
    |some w=>
     rw[eb]at rV;replace eb:=VZ eb;have z1z:=Ln.mk (ls:=[0]) (vn);have z2z:=Lm.mk (Ln.mk (ls:=[0]) (rV));refine rK ?_ ?_ ?_ ?_ ?_ ?_ ?_ ?_<;>first|(with_reducible exact True.intro)|intros
     all_goals exact au.refl _
   |some v=>
    rw[ea]at vn mN;replace ea:=VZ ea;cases eb:d9 n l.b with
    |none=>
     rw[eb]at rV mN;have hr:R=1:=cD.out (by rw[mN];rfl);rw[hr];clear hr mN Bd;replace eb:=VZ eb;have z1z:=Ln.mk (ls:=[0]) (vn);have z2z:=Lm.mk (Ln.mk (ls:=[0]) (rV));refine rK ?_ ?_ ?_ ?_ ?_ ?_ ?_ ?_<;>first|(with_reducible exact True.intro)|intros
     all_goals exact au.refl _
    |some w=>
     rw[eb]at rV mN;replace eb:=VZ eb;by_cases nf:l.a < l.b
     ·have hge:decide (l.a≥l.b)=false:=by simp;omega
      have hlt:n9 n l=true:=by rw[mN];simp[nf]
      clear mN;replace hlt:=VZ hlt;by_cases OW:k=0
      ·have UU:decide ((k:Int)>0)=false:=by simp;omega
       have hg:=Eo.out hlt.out (by rw[Bd,OW];rfl);clear Bd;replace hg:=VZ hg;replace OW:=VZ OW;replace nf:=VZ nf;have z1z:=Ln.mk (ls:=[0]) (vn);have z2z:=Lm.mk (Ln.mk (ls:=[0]) (rV));refine rK ?_ ?_ ?_ ?_ ?_ ?_ ?_ ?_<;>first|(with_reducible exact True.intro)|intros
       exact hC _ _ hg.out (wf)
      ·obtain⟨j,hj⟩:∃j,k=j+1:=⟨k - 1,by omega⟩;obtain⟨y,hy⟩:∃y,n.links[j]? =some y:=⟨_,VY (by omega)⟩;have UU:decide ((k:Int)>0)=true:=by simp;omega
       have cJ:IntKind.i64.wrap ((k:Int) - 1)=(j:Int):=by rw[IntKind.wrap_i64];omega
       have oF:(j:Int) < (n.links.length:Int):=by omega
       have Sy:=KS y l;rw[hj,Fx hy]at Bd;simp only at Bd;rw[←hj]at Bd;replace hj:=VZ hj;replace OW:=VZ OW;replace nf:=VZ nf;by_cases ho:tu y l < 0
       ·have hg:=Eo.out hlt.out (by rw[Bd];simpa using ho);have UV:decide (tu y l≥0)=false:=by simpa using ho
        clear Bd;replace hg:=VZ hg;replace ho:=VZ ho;generalize tu y l=O at*;have z1z:=Ln.mk (ls:=[0]) (vn);have z2z:=Lm.mk (Ln.mk (ls:=[0]) (rV));refine rK ?_ ?_ ?_ ?_ ?_ ?_ ?_ ?_<;>first|(with_reducible exact True.intro)|intros
        exact hC _ _ hg.out (wf)
       ·have hr:R=1:=JC.out (by rw[Bd];simpa using ho);have UV:decide (tu y l≥0)=true:=by simpa using ho
        rw[hr];clear Bd hr;replace ho:=VZ ho;generalize tu y l=O at*;have z1z:=Ln.mk (ls:=[0]) (vn);have z2z:=Lm.mk (Ln.mk (ls:=[0]) (rV));refine rK ?_ ?_ ?_ ?_ ?_ ?_ ?_ ?_<;>first|(with_reducible exact True.intro)|intros
        all_goals exact au.refl _
     ·have hge:decide (l.a≥l.b)=true:=by simp;omega
      have hr:R=1:=cD.out (by rw[mN];simp;omega);rw[hr];clear hr mN Bd;replace nf:=VZ nf;have z1z:=Ln.mk (ls:=[0]) (vn);have z2z:=Lm.mk (Ln.mk (ls:=[0]) (rV));refine rK ?_ ?_ ?_ ?_ ?_ ?_ ?_ ?_<;>first|(with_reducible exact True.intro)|intros
      all_goals exact au.refl _
  ·intro hJ C;rw[V4]at hJ;have JD:=xx n (by omega) (by omega) (fun v hv=>by have:=(bt (hI.out.1 v hv)).n4;omega) (fun l hl=>by
    have:=hJ.1 l hl;unfold n9 at this;simp only[Wd]at this;exact⟨i5 this.1,i5 this.2.1⟩)
   have hr:R=if d4 n=true then 0 else 1:=by
    rw[hR.out];split
    ·rename_i hp;exact wh df OV.out (by rw[Wx];exact hJ.1) hJ.2 hp
    ·rename_i hp;exact mv df (.inr (.inr (.inr (by simpa using hp))))
   rw[hr];clear hr;replace hJ:=VZ hJ;cases hp:d4 n with
   |true=>
    rw[hp]at JD;replace hp:=VZ hp;exact bx;all_goals exact au.refl _
   |false=>
    rw[hp]at JD;replace hp:=VZ hp;exact bx;all_goals exact au.refl _
structure NetOK (n:Net):Prop where
 n6:n.vpcs.length≤6
 n12:n.links.length≤12
 vp:∀v∈n.vpcs,cq v=0
 rise:n.vpcs.Pairwise fun a b=>a.id < b.id
 lk:∀l∈n.links,n9 n l=true
 rk:jt n.links=true
 pe:d4 n=true
theorem ic {n:Net}:dR n=0↔NetOK n:=by
 constructor
 ·intro h;unfold dR at h;split at h
  ·cases h
  ·rename_i h0;split at h
   ·rename_i h1;simp only[Wd]at h1;have:=oc h1.1 n.vpcs.length;rw[V4]at this;exact⟨by omega,by omega,this.1,this.2,by simpa using h1.2.1,h1.2.2.1,h1.2.2.2⟩
   ·cases h
 ·rintro⟨a,b,c,d,e,f,g⟩;exact wh (by omega) (zX c d) (by simpa using e) f g
theorem NetOK.ids {n:Net}(h:NetOK n):∀l∈n.links,l.a∈n.vpcs.map (·.id)∧l.b∈n.vpcs.map (·.id):=fun l hl=>by
 have:=h.lk l hl;unfold n9 at this;simp only[Wd]at this;exact⟨i5 this.1,i5 this.2.1⟩
theorem wk {α:Type}{enc:α→List D}(dA:∀x,(enc x).length=9)(p:α→Bool)(l:List α)(g:Nat)(caps:List D)(hl:l.length≤1000000000)(hc:∀x∈l,ae prog g (.agg (enc x)::caps) (.v (.bool (p x)))):
 ae prog 236 [.sl 9 (l.map enc),.clo g caps] (.v (.int .i64 (cY p l))):=by
 refine pj func236 ntmps236 results236 ?_;refine aF ?_<;>intros;refine cp ah av (fun m e h=>∃k:Nat,k≤l.length∧(∀x∈l.take k,p x=false)∧m=l.length - k∧e=[(8,.d (.v (.int .i64 k))),(7,.d (.v (.int .i64 l.length))),(4,.d (.v (.int .i64 0))),(1,.d (.clo g caps)),(0,.d (.sl 9 (l.map enc)))]∧h=[]) _ _ _ ⟨0,Wr _,by simp,rfl,rfl,rfl⟩ ?_ ?_
 ·exact wf (x:=[]) (hh:=rfl) (he:=⟨rfl,rfl,rfl,rfl,rfl,trivial⟩)
 ·rintro m e h ⟨k,hk,df,rfl,rfl,rfl⟩ CL kI;by_cases hlt:k < l.length
  ·obtain⟨x,hx⟩:∃x,l[k]? =some x:=⟨_,VY hlt⟩;have ej:(k:Int) < (l.length:Int):=by omega
   have ed:=wi k (by omega);have bc:=dA x;have jp:(enc x).take 9=enc x:=Wj (by omega);have gI:=hc x (V0 hx);cases hp:p x with
   |false=>
    rw[hp]at gI;refine aF ?_<;>intros;refine kI _ _ _ _ _ ?_ ⟨k+1,hlt,?_,rfl,rfl,rfl⟩ (wf (x:=[]) (hh:=rfl) (he:=⟨rfl,rfl,rfl,rfl,rfl,trivial⟩))
    ·omega
    ·intro y hy;rw[aj hx]at hy;rcases WJ.1 hy with hy|hy
     ·exact df y hy
     ·rw[WP]at hy;rw[hy];exact hp
   |true=>
    rw[hp]at gI;have jm:cY p l=k:=eJ hx hp df;exact bx;all_goals rw[jm]
    all_goals exact au.refl _
  ·obtain rfl:k=l.length:=by omega
   rw[V4]at df;refine aF ?_<;>intros;all_goals rw[eK df]
   all_goals exact au.refl _
theorem Fy {α:Type}{enc:α→List D}(dA:∀x,(enc x).length=9)(p:α→Bool)(l:List α)(g:Nat)(caps:List D)(hl:l.length≤1000000000)(hc:∀x∈l,ae prog g (.agg (enc x)::caps) (.v (.bool (p x)))):
 ae prog 158 [.sl 9 (l.map enc),.clo g caps] (.v (.bool (l.any p))):=by
 have hi:=wk dA p l g caps hl hc;have mM:=eY p l;refine pj func158 ntmps158 results158 ?_;exact bx;all_goals exact au.refl _
theorem kX {α:Type}{enc:α→List D}(dA:∀x,(enc x).length=5)(p:α→Bool)(l:List α)(g:Nat)(caps:List D)(hl:l.length≤1000000000)(hc:∀x∈l,ae prog g (.agg (enc x)::caps) (.v (.bool (p x)))):
 ae prog 165 [.sl 5 (l.map enc),.clo g caps] (.v (.int .i64 (cY p l))):=by
 refine pj func165 ntmps165 results165 ?_;refine aF ?_<;>intros;refine cp ah av (fun m e h=>∃k:Nat,k≤l.length∧(∀x∈l.take k,p x=false)∧m=l.length - k∧e=[(8,.d (.v (.int .i64 k))),(7,.d (.v (.int .i64 l.length))),(4,.d (.v (.int .i64 0))),(1,.d (.clo g caps)),(0,.d (.sl 5 (l.map enc)))]∧h=[]) _ _ _ ⟨0,Wr _,by simp,rfl,rfl,rfl⟩ ?_ ?_
 ·exact wf (x:=[]) (hh:=rfl) (he:=⟨rfl,rfl,rfl,rfl,rfl,trivial⟩)
 ·rintro m e h ⟨k,hk,df,rfl,rfl,rfl⟩ CL kI;by_cases hlt:k < l.length
  ·obtain⟨x,hx⟩:∃x,l[k]? =some x:=⟨_,VY hlt⟩;have ej:(k:Int) < (l.length:Int):=by omega
   have ed:=wi k (by omega);have bc:=dA x;have jp:(enc x).take 5=enc x:=Wj (by omega);have gI:=hc x (V0 hx);cases hp:p x with
   |false=>
    rw[hp]at gI;refine aF ?_<;>intros;refine kI _ _ _ _ _ ?_ ⟨k+1,hlt,?_,rfl,rfl,rfl⟩ (wf (x:=[]) (hh:=rfl) (he:=⟨rfl,rfl,rfl,rfl,rfl,trivial⟩))
    ·omega
    ·intro y hy;rw[aj hx]at hy;rcases WJ.1 hy with hy|hy
     ·exact df y hy
     ·rw[WP]at hy;rw[hy];exact hp
   |true=>
    rw[hp]at gI;have jm:cY p l=k:=eJ hx hp df;exact bx;all_goals rw[jm]
    all_goals exact au.refl _
  ·obtain rfl:k=l.length:=by omega
   rw[V4]at df;refine aF ?_<;>intros;all_goals rw[eK df]
   all_goals exact au.refl _
theorem od {α:Type}{enc:α→List D}(dA:∀x,(enc x).length=5)(p:α→Bool)(l:List α)(g:Nat)(caps:List D)(hl:l.length≤1000000000)(hc:∀x∈l,ae prog g (.agg (enc x)::caps) (.v (.bool (p x)))):
 ae prog 119 [.sl 5 (l.map enc),.clo g caps] (.v (.bool (l.any p))):=by
 have hi:=kX dA p l g caps hl hc;have mM:=eY p l;refine pj func119 ntmps119 results119 ?_;exact bx;all_goals exact au.refl _
theorem H5 (a b:Int):ae prog 261 [.v (.int .i64 a),.v (.int .i64 b)] (.v (.bool (decide (a < b)))):=by
 cases h:decide (a < b)with
 |true=>
  refine pj func261 ntmps261 results261 ?_;have z1z:=iu a;have z2z:=iu b;exact bx;all_goals exact au.refl _
 |false=>
  refine pj func261 ntmps261 results261 ?_;have z1z:=iu a;have z2z:=iu b;exact bx;all_goals exact au.refl _
theorem qr {α:Type}{enc:α→List D}(dA:∀x,(enc x).length=9)(key:α→Int)(l:List α)(t:Int)(g:Nat)(caps:List D)(hl:l.length≤1000000000)(hs:l.Pairwise fun a b=>key a < key b)(hc:∀x∈l,ae prog g (.agg (enc x):: .v (.int .i64 t)::caps) (.v (.int .i64 (dx (key x) t)))):
 ae prog 233 [.sl 9 (l.map enc),.v (.int .i64 t),.clo g caps] (.tup [.v (.int .i64 (kH key t l)),.v (.bool (o9 key t l))]):=by
 refine pj func233 ntmps233 results233 ?_;refine aF ?_<;>intros;refine cp ah av (fun m e h=>∃i j:Nat,i≤j∧j≤l.length∧(∀q (hq:q < l.length),q < i→key l[q] < t)∧(∀q (hq:q < l.length),j≤q→t≤key l[q])∧m=j - i∧
  e=[(10,.d (.v (.int .i64 j))),(9,.d (.v (.int .i64 i))),(8,.d (.v (.int .i64 l.length))),(7,.d (.v (.bool false))),(6,.d (.v (.int .i64 0))),(2,.d (.clo g caps)),(1,.d (.v (.int .i64 t))),(0,.d (.sl 9 (l.map enc)))]∧h=[]) _ _ _ ⟨0,l.length,Wr _,Wa _,fun q hq h=>absurd h (XW _),fun q hq h=>by omega,rfl,rfl,rfl⟩ ?_ ?_
 ·exact wf (x:=[]) (hh:=rfl) (he:=⟨rfl,rfl,rfl,rfl,rfl,rfl,rfl,rfl,trivial⟩)
 ·rintro m e h ⟨i,j,hij,hj,jq,jN,rfl,rfl,rfl⟩ CL kI;by_cases hlt:i < j
  ·obtain⟨q,hq⟩:∃q,q=(i+j) / 2:=⟨_,rfl⟩;have Em:q < l.length:=by omega
   obtain⟨x,hx⟩:∃x,l[q]? =some x:=⟨_,VY Em⟩;have lK:l[q]=x:=by rw[VY Em]at hx;exact WD.inj hx
   have ej:(i:Int) < (j:Int):=by omega
   have cJ:IntKind.i64.wrap ((i:Int)+(j:Int))=((i+j:Nat):Int):=by rw[IntKind.wrap_i64];omega
   have cN:IntKind.u64.wrap ((i+j:Nat):Int)=((i+j:Nat):Int):=by rw[ta];omega
   have Gg:(((i+j:Nat):Int)).fdiv (2 ^ min 1 64)=(q:Int):=by
    rw[hq,show (min 1 64:Nat)=1 from rfl,Zc,Int.pow_zero,Int.one_mul,Yl _ (by omega)];omega
   have lF:IntKind.i64.wrap (q:Int)=(q:Int):=by rw[IntKind.wrap_i64];omega
   have JA:=wi q (by omega);have bc:=dA x;have jp:(enc x).take 9=enc x:=Wj (by omega);have gI:=hc x (V0 hx);have Gr:=o8 (key x) t;have TU:i≤q∧q < j:=by omega
   replace hq:=VZ hq;by_cases hk:key x < t
   ·have g8:decide (key x < t)=true:=by simpa using hk
    refine aF ?_<;>intros;refine kI _ _ _ _ _ ?_ ⟨q+1,j,by omega,hj,?_,jN,rfl,rfl,rfl⟩ (wf (x:=[]) (hh:=rfl) (he:=⟨rfl,rfl,rfl,rfl,rfl,rfl,rfl,rfl,trivial⟩))
    ·omega
    ·intro q' hq' F6;rcases Wv q' q with h1|h1
     ·have:=WG.1 hs q' q hq' Em h1;rw[lK]at this;omega
     ·obtain rfl:q'=q:=by omega
      rw[lK];exact hk
   ·have g8:decide (key x < t)=false:=by simpa using hk
    refine aF ?_<;>intros;refine kI _ _ _ _ _ ?_ ⟨i,q,by omega,by omega,jq,?_,rfl,rfl,rfl⟩ (wf (x:=[]) (hh:=rfl) (he:=⟨rfl,rfl,rfl,rfl,rfl,rfl,rfl,rfl,trivial⟩))
    ·omega
    ·intro q' hq' F6;rcases Wv q q' with h1|h1
     ·have:=WG.1 hs q q' Em hq' h1;rw[lK]at this;omega
     ·obtain rfl:q'=q:=by omega
      rw[lK];omega
  ·obtain rfl:i=j:=by omega
   have mN:=qi hj jq jN;have pL:o9 key t l=match l[i]? with|some x=>key x==t|none=>false:=by unfold o9;rw[mN];all_goals(cases l[i]? <;>rfl)
   replace mN:=VZ mN;replace pL:=VZ pL;by_cases g7:i < l.length
   ·obtain⟨x,hx⟩:∃x,l[i]? =some x:=⟨_,VY g7⟩;have JB:decide ((i:Int) < (l.length:Int))=true:=by simpa using g7
    have bc:=dA x;have jp:(enc x).take 9=enc x:=Wj (by omega);have gI:=hc x (V0 hx);have TV:=qh (key x) t;refine aF ?_<;>intros;all_goals rw[pL.out,hx,mN.out]
    all_goals exact au.refl _
   ·have JB:decide ((i:Int) < (l.length:Int))=false:=by simpa using g7
    refine aF ?_<;>intros;all_goals rw[pL.out,mN.out,Wm (by omega)]
    all_goals exact au.refl _
theorem B7 {α:Type}{enc:α→List D}(dA:∀x,(enc x).length=5)(key:α→Int)(l:List α)(t:Int)(g:Nat)(caps:List D)(hl:l.length≤1000000000)(hs:l.Pairwise fun a b=>key a < key b)(hc:∀x∈l,ae prog g (.agg (enc x):: .v (.int .i64 t)::caps) (.v (.int .i64 (dx (key x) t)))):
 ae prog 239 [.sl 5 (l.map enc),.v (.int .i64 t),.clo g caps] (.tup [.v (.int .i64 (kH key t l)),.v (.bool (o9 key t l))]):=by
 refine pj func239 ntmps239 results239 ?_;refine aF ?_<;>intros;refine cp ah av (fun m e h=>∃i j:Nat,i≤j∧j≤l.length∧(∀q (hq:q < l.length),q < i→key l[q] < t)∧(∀q (hq:q < l.length),j≤q→t≤key l[q])∧m=j - i∧
  e=[(10,.d (.v (.int .i64 j))),(9,.d (.v (.int .i64 i))),(8,.d (.v (.int .i64 l.length))),(7,.d (.v (.bool false))),(6,.d (.v (.int .i64 0))),(2,.d (.clo g caps)),(1,.d (.v (.int .i64 t))),(0,.d (.sl 5 (l.map enc)))]∧h=[]) _ _ _ ⟨0,l.length,Wr _,Wa _,fun q hq h=>absurd h (XW _),fun q hq h=>by omega,rfl,rfl,rfl⟩ ?_ ?_
 ·exact wf (x:=[]) (hh:=rfl) (he:=⟨rfl,rfl,rfl,rfl,rfl,rfl,rfl,rfl,trivial⟩)
 ·rintro m e h ⟨i,j,hij,hj,jq,jN,rfl,rfl,rfl⟩ CL kI;by_cases hlt:i < j
  ·obtain⟨q,hq⟩:∃q,q=(i+j) / 2:=⟨_,rfl⟩;have Em:q < l.length:=by omega
   obtain⟨x,hx⟩:∃x,l[q]? =some x:=⟨_,VY Em⟩;have lK:l[q]=x:=by rw[VY Em]at hx;exact WD.inj hx
   have ej:(i:Int) < (j:Int):=by omega
   have cJ:IntKind.i64.wrap ((i:Int)+(j:Int))=((i+j:Nat):Int):=by rw[IntKind.wrap_i64];omega
   have cN:IntKind.u64.wrap ((i+j:Nat):Int)=((i+j:Nat):Int):=by rw[ta];omega
   have Gg:(((i+j:Nat):Int)).fdiv (2 ^ min 1 64)=(q:Int):=by
    rw[hq,show (min 1 64:Nat)=1 from rfl,Zc,Int.pow_zero,Int.one_mul,Yl _ (by omega)];omega
   have lF:IntKind.i64.wrap (q:Int)=(q:Int):=by rw[IntKind.wrap_i64];omega
   have JA:=wi q (by omega);have bc:=dA x;have jp:(enc x).take 5=enc x:=Wj (by omega);have gI:=hc x (V0 hx);have Gr:=o8 (key x) t;have TU:i≤q∧q < j:=by omega
   replace hq:=VZ hq;by_cases hk:key x < t
   ·have g8:decide (key x < t)=true:=by simpa using hk
    refine aF ?_<;>intros;refine kI _ _ _ _ _ ?_ ⟨q+1,j,by omega,hj,?_,jN,rfl,rfl,rfl⟩ (wf (x:=[]) (hh:=rfl) (he:=⟨rfl,rfl,rfl,rfl,rfl,rfl,rfl,rfl,trivial⟩))
    ·omega
    ·intro q' hq' F6;rcases Wv q' q with h1|h1
     ·have:=WG.1 hs q' q hq' Em h1;rw[lK]at this;omega
     ·obtain rfl:q'=q:=by omega
      rw[lK];exact hk
   ·have g8:decide (key x < t)=false:=by simpa using hk
    refine aF ?_<;>intros;refine kI _ _ _ _ _ ?_ ⟨i,q,by omega,by omega,jq,?_,rfl,rfl,rfl⟩ (wf (x:=[]) (hh:=rfl) (he:=⟨rfl,rfl,rfl,rfl,rfl,rfl,rfl,rfl,trivial⟩))
    ·omega
    ·intro q' hq' F6;rcases Wv q q' with h1|h1
     ·have:=WG.1 hs q q' Em hq' h1;rw[lK]at this;omega
     ·obtain rfl:q'=q:=by omega
      rw[lK];omega
  ·obtain rfl:i=j:=by omega
   have mN:=qi hj jq jN;have pL:o9 key t l=match l[i]? with|some x=>key x==t|none=>false:=by unfold o9;rw[mN];all_goals(cases l[i]? <;>rfl)
   replace mN:=VZ mN;replace pL:=VZ pL;by_cases g7:i < l.length
   ·obtain⟨x,hx⟩:∃x,l[i]? =some x:=⟨_,VY g7⟩;have JB:decide ((i:Int) < (l.length:Int))=true:=by simpa using g7
    have bc:=dA x;have jp:(enc x).take 5=enc x:=Wj (by omega);have gI:=hc x (V0 hx);have TV:=qh (key x) t;refine aF ?_<;>intros;all_goals rw[pL.out,hx,mN.out]
    all_goals exact au.refl _
   ·have JB:decide ((i:Int) < (l.length:Int))=false:=by simpa using g7
    refine aF ?_<;>intros;all_goals rw[pL.out,mN.out,Wm (by omega)]
    all_goals exact au.refl _
section
open Go.Proofs
section
variable {w:World}{b o:Nat}{c0 c1 c2 c3 c4 c5 c6 c7 c8:Value}
theorem qs (h:jx w b o [c0,c1]):w.cell? ⟨b,o,none⟩=some c0∧w.cell? ⟨b,o+1,none⟩=some c1:=⟨h 0 (by simp),h 1 (by simp)⟩
end
theorem gR {w w':World}{b o:Nat}{cs:List Value}(hx:cW w w')(h:jx w b o cs):jx w' b o cs:=fun j hj=>cl hx (h j hj)
theorem Sl.ext {α:Type}{A:kJ}{w w':World}{k:Nat}{R:List Value→α→Prop}{ao:Option Addr}{cap:Nat}{l:List α}(h:Sl A w k R ao cap l)(hx:cW w w'):Sl A w' k R ao cap l:=by
 refine⟨h.cap_le,h.cap_max,fun i hi=>?_⟩;obtain⟨b,off,cs,h1,h2,h3,h4,h5⟩:=h.elem i hi;exact⟨b,off,cs,h1,h2,h3,h4,gR hx h5⟩
theorem Sl.nil {α:Type}{A:kJ}{w:World}{k:Nat}{R:List Value→α→Prop}{ao:Option Addr}{cap:Nat}(h:cap≤9223372036854775807):Sl A w k R ao cap ([]:List α):=
 ⟨Wr _,h,fun i hi=>by simp at hi⟩
theorem Sl.take {α:Type}{A:kJ}{w:World}{k:Nat}{R:List Value→α→Prop}{ao:Option Addr}{cap:Nat}{l:List α}(h:Sl A w k R ao cap l)(n:Nat):Sl A w k R ao cap (l.take n):=by
 refine⟨W6 (List.length_take_le' n l) h.cap_le,h.cap_max,fun i hi=>?_⟩;have hi':i < l.length:=by rw[V2]at hi;omega
 obtain⟨b,off,cs,h1,h2,h3,h4,h5⟩:=h.elem i hi';exact⟨b,off,cs,h1,h2,h3,by rw[YE];exact h4,h5⟩
theorem Sl.mono {α:Type}{A:kJ}{w:World}{k:Nat}{R R':List Value→α→Prop}{ao:Option Addr}{cap:Nat}{l:List α}(h:Sl A w k R ao cap l)(hR:∀cs x,x∈l→R cs x→R' cs x):Sl A w k R' ao cap l:=by
 refine⟨h.cap_le,h.cap_max,fun i hi=>?_⟩;obtain⟨b,off,cs,h1,h2,h3,h4,h5⟩:=h.elem i hi;exact⟨b,off,cs,h1,h2,h3,hR _ _ (W8 hi) h4,h5⟩
def lz {α:Type}(p:α→Bool)(l:List α):Int:=match l.findIdx? p with|some i=>(i:Int)|none=> -1
theorem DP {α:Type}{p:α→Bool}{l:List α}{k:Nat}(hk:k < l.length)(hp:p l[k]=true)(hn:∀j (h:j < k),p (l[j]'(by omega))=false):lz p l=k:=by
 have:l.findIdx? p=some k:=by
  rw[WF];exact⟨hk,hp,fun j hj=>by simp[hn j hj]⟩
 unfold lz;rw[this]
theorem zY {α:Type}{p:α→Bool}{l:List α}(hn:∀j (h:j < l.length),p l[j]=false):lz p l= -1:=by
 have:l.findIdx? p=none:=by
  rw[Xm];intro x hx;obtain⟨j,hj,rfl⟩:=W9.1 hx;exact hn j hj
 unfold lz;rw[this]
theorem DQ {α:Type}(p:α→Bool)(l:List α):decide (lz p l≥0)=l.any p:=by
 unfold lz;cases h:l.findIdx? p with
 |none=>
  rw[Xm]at h;have:l.any p=false:=by rw[Xu];intro x hx;simp[h x hx]
  rw[this];rfl
 |some i=>
  rw[WF]at h;obtain⟨hi,hp,_⟩:=h;have:l.any p=true:=by rw[XK];exact⟨l[i],W8 hi,hp⟩
  rw[this];simp
def H6 {α:Type}(P:Program)(g:Nat)(lb:Array Value)(R:List Value→α→Prop)(p:α→Bool)(l:List α)(w:World):Prop:=
 ∀W,cW w W→∀x∈l,∀cs,R cs x→Calls P g (#[.agg cs.toArray]++lb) W fun e w'=>e= .returned (.bool (p x))∧cW W w'
end
section
open Go.Proofs
theorem zZ {α:Type}{A:kJ}{R:List Value→α→Prop}(g:Nat)(lb:Array Value)(eg:∀args w,(callFunc g args).run prog w= .ok (.enter g args) w)(p:α→Bool)(l:List α)(ao:Option Addr)(cap:Nat)(w:World)(h:Sl A w 2 R ao cap l)(hp:H6 prog g lb R p l w):
 Calls prog 206 #[.slice ao l.length cap,.func (.func g) #[] lb] w fun e w'=>e= .returned (.int .i64 (lz p l))∧cW w w':=by
 have gh:=h.cap_le;have Gr:=h.cap_max;obtain⟨r,hr⟩:∃r,r=lz p l:=⟨_,rfl⟩;rw[←hr];replace hr:=VZ hr;replace hp:=VZ hp;go_enter func206,ntmps206
 go_wp2_with fail
 go_loopw [5,8] (fun _ s8 wr=>∃k:Nat,k≤l.length∧s8= .int .i64 k∧Hid (∀j (h:j < k) (h':j < l.length),p l[j]=false)∧cW w wr) (fun _ s8 _=>l.length - (intOf s8).toNat)
 case atStart=>exact⟨0,Wr _,rfl,VZ (fun j hj=>absurd hj (XW _)),Below.refl _ w⟩
 case round=>
  obtain⟨k,hk,rfl,b7,hx⟩:=hrel;by_cases hlt:k < l.length
  ·have ej:(k:Int) < (l.length:Int):=by omega
   obtain⟨b,off,cs,rfl,-,bc,hR,mK⟩:=h.elem k hlt;have fY:=hp.out wr hx l[k] (W8 hlt) cs hR;replace mK:=gR hx mK;obtain⟨q,hq⟩:∃q,q=p l[k]:=⟨_,rfl⟩;rw[←hq]at fY;replace hq:=VZ hq;clear h hR;match cs,bc with
   |[v0,v1],_=>
    obtain⟨k0,k1⟩:=qs mK;clear mK;replace fY:=VZ fY;cases q
    case true=>
     go_wp2_with fail
     refine fY.out.mono ?_;rintro e w1 ⟨rfl,nc⟩;go_wp2_with fail
     go_ret
     exact⟨bV (by rw[hr.out];exact(DP hlt hq.out.symm fun j hj=>b7.out j hj (by omega)).symm),ai hx nc⟩
    case false=>
     go_wp2_with fail
     refine fY.out.mono ?_;rintro e w1 ⟨rfl,nc⟩;go_wp2_with fail
     go_roundw
     case rel=>exact⟨k+1,by omega,by go_num,VZ (fun j hj hj'=>by
      rcases Y7 (Y9 hj)with h1|h1
      ·exact b7.out j h1 hj'
      ·subst h1;exact hq.out.symm),ai hx nc⟩
     case measure=>simp[intOf];omega
  ·have ej:¬(k:Int) < (l.length:Int):=by omega
   obtain rfl:k=l.length:=by omega
   go_wp2_with fail
   go_ret
   exact⟨bV (by rw[hr.out];exact(zY fun j hj=>b7.out j hj hj).symm),hx⟩
theorem tz {α:Type}{A:kJ}{R:List Value→α→Prop}(g:Nat)(lb:Array Value)(eg:∀args w,(callFunc g args).run prog w= .ok (.enter g args) w)(p:α→Bool)(l:List α)(ao:Option Addr)(cap:Nat)(w:World)(h:Sl A w 2 R ao cap l)(hp:H6 prog g lb R p l w):
 Calls prog 122 #[.slice ao l.length cap,.func (.func g) #[] lb] w fun e w'=>e= .returned (.bool (l.any p))∧cW w w':=by
 have hc:=zZ g lb eg p l ao cap w h hp;have ha:=DQ p l;obtain⟨r,hr⟩:∃r,r=lz p l:=⟨_,rfl⟩;rw[←hr]at hc ha;rw[←ha];clear hr ha h hp;replace hc:=VZ hc;go_enter func122,ntmps122
 go_wp2_with fail
 refine hc.out.mono ?_;rintro e w1 ⟨rfl,nc⟩;go_wp2_with fail
 go_ret
 exact⟨rfl,nc⟩
end
section
open Go.Proofs
theorem KZ {A:kJ}(v:Pfx)(l:List Pfx)(ao:Option Addr)(cap:Nat)(w:World)(h:Sl A w 2 Pfx.R ao cap l):
 Calls prog 376 #[.slice ao l.length cap,.agg #[.int .i64 v.at_,.int .i64 v.len]] w fun e w'=>e= .returned (.int .i64 (lz (fun x=>decide (v=x)) l))∧cW w w':=by
 have gh:=h.cap_le;have Gr:=h.cap_max;obtain⟨r,hr⟩:∃r,r=lz (fun x=>decide (v=x)) l:=⟨_,rfl⟩;rw[←hr];replace hr:=VZ hr;go_enter func376,ntmps376
 go_wp2_with fail
 go_loopw [5,8] (fun _ s8 wr=>∃k:Nat,k≤l.length∧s8= .int .i64 k∧Hid (∀j (h:j < k) (h':j < l.length),decide (v=l[j])=false)∧cW (w.alloc (.cells #[.int .i64 v.at_,.int .i64 v.len] 23)) wr) (fun _ s8 _=>l.length - (intOf s8).toNat)
 case atStart=>exact⟨0,Wr _,rfl,VZ (fun j hj=>absurd hj (XW _)),Below.refl _ _⟩
 case round=>
  obtain⟨k,hk,rfl,b7,hx⟩:=hrel;by_cases hlt:k < l.length
  ·have ej:(k:Int) < (l.length:Int):=by omega
   obtain⟨b,off,cs,rfl,-,bc,hR,mK⟩:=h.elem k hlt;replace mK:=gR hx (gR (am _ _) mK);unfold Pfx.R at hR;subst hR;obtain⟨k0,k1⟩:=qs mK;have p0:wr.cell? ⟨w.heap.size,0,none⟩=some (.int .i64 v.at_):=cl hx (by simp);have p1:wr.cell? ⟨w.heap.size,1,none⟩=some (.int .i64 v.len):=cl hx (by simp);have lb:=cQ k0;have lp:=cQ p0;obtain⟨y,hy⟩:∃y,y=l[k]:=⟨_,rfl⟩;rw[←hy]at k0 k1;replace hy:=VZ hy;clear mK h;by_cases e0:v.at_=y.at_
   ·by_cases e1:v.len=y.len
    ·have he:decide (v=y)=true:=by simp;cases v;cases y;simp_all
     replace he:=VZ he;go_wp2_with fail
     refine dt (by kernel_rfl) (by kernel_rfl) (fun _ _ d _ _ h=>by cases d<;>exact h) ?_;repeat(first|((first|refine bH rfl rfl rfl (by with_reducible rfl) ?_|refine bI rfl rfl rfl (by with_reducible rfl) ?_|refine bJ rfl rfl rfl (by with_reducible rfl) ?_);simp only[Act.put,V8,Wi,Wl])|(apply cG;(first|exact b6 rfl|exact cu rfl rfl rfl (by with_reducible rfl));intro wq ek R hR;((have gF:=(bk ek).1;(try simp only[Wb,ab,Wf,We]at gF));go_simp;first|exact hR|(fail));simp only[Act.put,V8,Wi,Wl]))
     refine fR ?_;intro w2 cN;obtain⟨eQ,ep⟩:=bk cN;have eH:=b8 cN;(try simp only[Wb,ab,Wf,We]at eQ ep eH)
     go_wp2_with fail
     go_ret
     exact⟨bV (by rw[hr.out];exact(DP hlt (by rw[←hy.out];exact he.out) fun j hj=>b7.out j hj (by omega)).symm),ai (am _ _) (ai hx cN)⟩
    ·have he:decide (v=y)=false:=by simp;intro h;exact e1 (by rw[h])
     replace he:=VZ he;go_wp2_with fail
     refine dt (by kernel_rfl) (by kernel_rfl) (fun _ _ d _ _ h=>by cases d<;>exact h) ?_;repeat(first|((first|refine bH rfl rfl rfl (by with_reducible rfl) ?_|refine bI rfl rfl rfl (by with_reducible rfl) ?_|refine bJ rfl rfl rfl (by with_reducible rfl) ?_);simp only[Act.put,V8,Wi,Wl])|(apply cG;(first|exact b6 rfl|exact cu rfl rfl rfl (by with_reducible rfl));intro wq ek R hR;((have gF:=(bk ek).1;(try simp only[Wb,ab,Wf,We]at gF));go_simp;first|exact hR|(fail));simp only[Act.put,V8,Wi,Wl]))
     refine fR ?_;intro w2 cN;obtain⟨eQ,ep⟩:=bk cN;have eH:=b8 cN;(try simp only[Wb,ab,Wf,We]at eQ ep eH)
     go_wp2_with fail
     go_roundw
     case rel=>exact⟨k+1,by omega,by go_num,VZ (fun j hj hj'=>by
      rcases Y7 (Y9 hj)with h1|h1
      ·exact b7.out j h1 hj'
      ·subst h1;rw[←hy.out];exact he.out),ai hx cN⟩
     case measure=>simp[intOf];omega
   ·have he:decide (v=y)=false:=by simp;intro h;exact e0 (by rw[h])
    replace he:=VZ he;go_wp2_with fail
    refine dt (by kernel_rfl) (by kernel_rfl) (fun _ _ d _ _ h=>by cases d<;>exact h) ?_;repeat(first|((first|refine bH rfl rfl rfl (by with_reducible rfl) ?_|refine bI rfl rfl rfl (by with_reducible rfl) ?_|refine bJ rfl rfl rfl (by with_reducible rfl) ?_);simp only[Act.put,V8,Wi,Wl])|(apply cG;(first|exact b6 rfl|exact cu rfl rfl rfl (by with_reducible rfl));intro wq ek R hR;((have gF:=(bk ek).1;(try simp only[Wb,ab,Wf,We]at gF));go_simp;first|exact hR|(fail));simp only[Act.put,V8,Wi,Wl]))
    refine fR ?_;intro w2 cN;obtain⟨eQ,ep⟩:=bk cN;have eH:=b8 cN;(try simp only[Wb,ab,Wf,We]at eQ ep eH)
    go_wp2_with fail
    go_roundw
    case rel=>exact⟨k+1,by omega,by go_num,VZ (fun j hj hj'=>by
     rcases Y7 (Y9 hj)with h1|h1
     ·exact b7.out j h1 hj'
     ·subst h1;rw[←hy.out];exact he.out),ai hx cN⟩
    case measure=>simp[intOf];omega
  ·have ej:¬(k:Int) < (l.length:Int):=by omega
   obtain rfl:k=l.length:=by omega
   go_wp2_with fail
   go_ret
   exact⟨bV (by rw[hr.out];exact(zY fun j hj=>b7.out j hj hj).symm),ai (am _ _) hx⟩
theorem B8 {A:kJ}(v:Pfx)(l:List Pfx)(ao:Option Addr)(cap:Nat)(w:World)(h:Sl A w 2 Pfx.R ao cap l):
 Calls prog 365 #[.slice ao l.length cap,.agg #[.int .i64 v.at_,.int .i64 v.len]] w fun e w'=>e= .returned (.bool (l.contains v))∧cW w w':=by
 have hc:=fun W (h:Sl A W 2 Pfx.R ao cap l)=>KZ v l ao cap W h;have ha:=DQ (fun x=>decide (v=x)) l;have hb:l.contains v=l.any (fun x=>decide (v=x)):=by
  rw[Xh];simp
 rw[←hb]at ha;obtain⟨r,hr⟩:∃r,r=lz (fun x=>decide (v=x)) l:=⟨_,rfl⟩;rw[←hr]at ha;simp only[←hr]at hc;rw[←ha];clear hr ha hb;replace hc:=VZ hc;go_enter func365,ntmps365
 go_wp2_with fail
 refine(hc.out _ (h.ext (am _ _))).mono ?_;rintro e w1 ⟨rfl,nc⟩;go_wp2_with fail
 go_ret
 exact⟨rfl,ai (am _ _) nc⟩
end
structure EX (lo hi:Nat)(w w':World):Prop where
 os:w'.os=w.os
 tape:w'.tape=w.tape
 output:w'.output=w.output
 size:w.heap.size≤w'.heap.size
 block:∀b,b < w.heap.size→(b < lo∨hi≤b)→w'.heap[b]? =w.heap[b]?
 there:∀b o,b < w.heap.size→(w.cell? ⟨b,o,none⟩).isSome=true→(w'.cell? ⟨b,o,none⟩).isSome=true
 free:∀b o,b < w.heap.size→w'.frozen? ⟨b,o,none⟩=w.frozen? ⟨b,o,none⟩
theorem EX.refl {lo hi:Nat}(w:World):EX lo hi w w:=⟨rfl,rfl,rfl,Wa _,fun _ _ _=>rfl,fun _ _ _ h=>h,fun _ _ _=>rfl⟩
theorem EX.trans {lo hi:Nat}{a b c:World}(h:EX lo hi a b)(k:EX lo hi b c):EX lo hi a c:=
 ⟨k.os.trans h.os,k.tape.trans h.tape,k.output.trans h.output,W6 h.size k.size,fun i hi hx=>(k.block i (W4 hi h.size) hx).trans (h.block i hi hx),
  fun i o hi hs=>k.there i o (W4 hi h.size) (h.there i o hi hs),fun i o hi=>(k.free i o (W4 hi h.size)).trans (h.free i o hi)⟩
theorem EX.of {lo hi:Nat}{w w':World}(h:cW w w'):EX lo hi w w':=
 ⟨h.os,h.tape,h.output,h.size,fun b hb _=>h.block b hb,fun b o hb hs=>by rw[(bk h).1 b o hb];exact hs,fun b o hb=>(bk h).2 b o hb⟩
theorem EX.mono {lo hi lo' hi':Nat}{w w':World}(h1:lo≤lo')(h2:hi'≤hi)(h:EX lo' hi' w w'):EX lo hi w w':=
 ⟨h.os,h.tape,h.output,h.size,fun b hb hx=>h.block b hb (by omega),h.there,h.free⟩
theorem EX.cell {lo hi:Nat}{w w':World}(h:EX lo hi w w'){b o:Nat}(hb:b < w.heap.size)(hx:b < lo∨hi≤b):w'.cell? ⟨b,o,none⟩=w.cell? ⟨b,o,none⟩:=
 XR (w:=w) (h.block b hb hx)
theorem EX.setCell {lo hi:Nat}{w w':World}(h:EX lo hi w w'){b o:Nat}(h1:lo≤b)(h2:b < hi)(v:Value):EX lo hi w (w'.setCell ⟨b,o,none⟩ v):=by
 refine⟨h.os,h.tape,h.output,by rw[ab];exact h.size,fun i hi hx=>(dh v (by show b≠i;omega)).trans (h.block i hi hx),fun i j hi hs=>?_,fun i j hi=>?_⟩
 ·have h3:=h.there i j hi hs;obtain⟨u,hu⟩:=XZ.1 h3;obtain⟨u',hu'⟩:=cell?_setCell_some (w:=w') (p:=⟨b,o,none⟩) (x:=v) (q:=⟨i,j,none⟩) (v:=u) hu;rw[hu'];rfl
 ·rw[World.frozen?_setCell];exact h.free i j hi
theorem EX.drew {lo hi:Nat}{w w':World}(h:EX lo hi w w'):EX lo hi w w'.drew:=h.trans (EX.of ((Below.refl _ _).drew))
theorem EX.bel {lo hi B:Nat}{a w w':World}(h:Bel B a w)(hx:EX lo hi w w')(hB:B≤lo):Bel B a w':=
 ⟨h.bel.trans ⟨hx.os,hx.tape,hx.output,hx.size,fun k hk=>hx.block k (W4 hk h.le) (.inl (W4 hk hB))⟩,W6 h.le hx.size⟩
theorem EX.some {lo hi:Nat}{w w':World}(h:EX lo hi w w'){b o:Nat}{v:Value}(hc:w.cell? ⟨b,o,none⟩=some v):∃u,w'.cell? ⟨b,o,none⟩=some u:=by
 have:=h.there b o (cQ hc) (by rw[hc];rfl);exact XZ.1 this
theorem AW {lo hi:Nat}{w w':World}(h:EX lo hi w w')(hl:lo≤w.heap.size):∀b o,b < lo→w'.cell? ⟨b,o,none⟩=w.cell? ⟨b,o,none⟩:=fun b o hb=>h.cell (by omega) (.inl hb)
theorem EX.hi {lo hi:Nat}{w w':World}(h:EX lo hi w w'):∀b o,hi≤b→b < w.heap.size→w'.cell? ⟨b,o,none⟩=w.cell? ⟨b,o,none⟩:=fun b o hb h2=>h.cell h2 (.inr hb)
section
variable {P:Program}{ops:Array Oper}{Q:Exit→Act→World→Prop}
def GX (P:Program)(ops:Array Oper)(Q:Exit→Act→World→Prop):Nat→Array Bool→Act→Nat→Nat→World→Prop
 |0,listed,a,lo,hi,W=>Region.ready .any ops listed=[]∧∀w,EX lo hi W w→Q .normal a w
 |fuel+1,listed,a,lo,hi,W=>∀w,EX lo hi W w→(Region.ready .any ops listed=[]→Q .normal a w)∧
  ∀i∈Region.ready .any ops listed,wpOp P ops Q i (fun a' w'=>EX lo hi w w'∧∃lo' hi',lo≤lo'∧hi'≤hi∧GX P ops Q fuel (listed.setIfInBounds i true) a' lo' hi' w') a w
theorem GX.world:∀{fuel:Nat}{listed:Array Bool}{a:Act}{lo hi:Nat}{W W':World},EX lo hi W W'→GX P ops Q fuel listed a lo hi W→GX P ops Q fuel listed a lo hi W'
 |0,_,_,_,_,_,_,hx,h=>⟨h.1,fun w hw=>h.2 w (hx.trans hw)⟩
 |_+1,_,_,_,_,_,_,hx,h=>fun w hw=>h w (hx.trans hw)
theorem GX.any:∀{fuel:Nat}{listed:Array Bool}{a:Act}{lo hi:Nat}{W:World},GX P ops Q fuel listed a lo hi W→wpAny P .any ops Q fuel listed a W
 |0,_,_,_,_,_,h=>⟨h.1,h.2 _ (EX.refl _)⟩
 |_+1,_,_,_,_,W,h=>⟨(h W (EX.refl _)).1,fun i hi=>wpOp_mono (fun _ _ ⟨_,_,_,_,_,h'⟩=>GX.any h') ((h W (EX.refl _)).2 i hi)⟩
def QX (P:Program)(ops:Array Oper)(lo hi:Nat)(W:World)(o:Oper)(v:Value)(a:Act):Prop:=
 (Region.wanted o (yielded ops a.tmps)=true∧∀w,EX lo hi W w→o.quietAt P a (cW w) w v)∨
 (Region.wanted o (yielded ops a.tmps)=false∧v=undef)
theorem QX.world {lo hi lo' hi':Nat}{W W':World}{o:Oper}{v:Value}{a:Act}(h1:lo≤lo')(h2:hi'≤hi)(hx:EX lo hi W W')(h:QX P ops lo hi W o v a):QX P ops lo' hi' W' o v a:=
 h.imp (fun⟨g1,g2⟩=>⟨g1,fun w hw=>g2 w (hx.trans (hw.mono h1 h2))⟩) id
theorem QX.of_same {lo hi:Nat}{W:World}{o:Oper}{v:Value}{a a':Act}(hy:QX P ops lo hi W o v a)(he:execOp a'.eval o=execOp a.eval o)
 (hw:Region.wanted o (yielded ops a'.tmps)=Region.wanted o (yielded ops a.tmps)):QX P ops lo hi W o v a':=by
 unfold QX Oper.quietAt at*;rw[he,hw];exact hy
theorem QX.wpOp {lo hi:Nat}{W:World}{i:Nat}{o:Oper}{v:Value}{a:Act}(hi':ops[i]? =some o)(hy:QX P ops lo hi W o v a){K:Act→World→Prop}{w:World}(hw:EX lo hi W w)(h:∀w',cW w w'→K (a.put o.dst v) w'):wpOp P ops Q i K a w:=by
 unfold Go.wpOp;simp only[hi'];rcases hy with⟨yi,hv⟩|⟨yi,rfl⟩
 ·simp only[yi,if_true];left;have h3:=hv w hw;unfold Oper.quietAt at h3;unfold Oper.wp;generalize (execOp a.eval o).run P w=r at*;cases r with
  |ok n w'=>
   cases n<;>simp only[Oper.quietUpon]at h3<;>simp only[Oper.upon]
   case value u=>
    obtain⟨e1,e2⟩:=h3;rw[e1,e2];exact h _ (Below.refl _ _)
   case skip=>
    obtain⟨e1,e2⟩:=h3;rw[e1,←e2];exact h _ (Below.refl _ _)
   case enter f args=>
    obtain⟨e1,hc⟩:=h3;rw[e1];exact hc.mono fun e w'' ⟨he,hw''⟩=>by subst he;exact h _ hw''
  |halt x w'=>simp only[Oper.quietUpon]at h3
 ·simp only[yi,XF,if_false];exact h w (Below.refl _ _)
theorem Fz {lo hi:Nat}{W:World}{j:Nat}{oi oj:Oper}{v:Value}(hj:ops[j]? =some oj)(QD:oi.apart ops oj=true)
 (Bm:∀cs b,oi.op≠ .select cs b) (M7:∀cs b,oj.op≠ .select cs b)
 (hQ:∀c a w,Q (.panic c) (a.put oi.dst v) w→Q (.panic c) a w) {K:Act→World→Prop}{a:Act}{w:World}
 (hy:QX P ops lo hi W oi v a) (h:wpOp P ops Q j K (a.put oi.dst v) w):
 wpOp P ops Q j (fun a' w'=>QX P ops lo hi W oi v a'∧K (a'.put oi.dst v) w') a w:=by
 obtain⟨h1,h2,h3⟩:=Oper.apart_spec QD;have keep:∀(a:Act),QX P ops lo hi W oi v a→∀u,QX P ops lo hi W oi v (a.put oj.dst u):=fun a hy u=>
  hy.of_same (execOp_put oi Bm a oj.dst u h3) (wanted_put oi a oj.dst u h3)
 have keepD:∀d,QX P ops lo hi W oi v {a with defers:=d::a.defers}:=fun d=>hy.of_same rfl rfl;unfold wpOp at*;simp only[hj]at*;rw[wanted_put oj a oi.dst v h1]at h;split
 ·rename_i hw;simp only[hw,if_true]at h;rcases h with h|⟨rB,A8⟩
  case inr=>exact .inr ⟨by unfold Oper.asks at*;rw[execOp_put oj M7 a oi.dst v h1]at rB;exact rB,A8⟩
  refine .inl ?_;unfold Oper.wp at*;rw[execOp_put oj M7 a oi.dst v h1]at h;generalize (execOp a.eval oj).run P w=r at*;cases r with
  |ok n w'=>
   cases n<;>simp only[Oper.upon]at h ⊢
   case value u=>exact⟨keep a hy u,by rw[←Act.put_comm a v u h2];exact h⟩
   case skip=>exact⟨keep a hy _,by rw[←Act.put_comm a v undef h2];exact h⟩
   case defer d=>
    refine⟨keep _ (keepD d) _,?_⟩;rw[←Act.put_comm _ v undef h2,←Act.put_defers];exact h
   case enter f args=>
    refine Calls.mono h fun e w'' he=>?_;cases e with
    |returned u=>exact⟨keep a hy u,by rw[←Act.put_comm a v u h2];exact he⟩
    |panicked c=>exact hQ _ _ _ he
    |outgrown=>exact he
   case row row args=>exact Rows.mono h fun u w'' he=>⟨keep a hy u,by rw[←Act.put_comm a v u h2];exact he⟩
  |halt x w'=>
   cases x<;>simp only[Oper.upon]at h ⊢
   case panic u=>exact hQ _ _ _ h
 ·rename_i hw;simp only[hw]at h;exact⟨keep a hy _,by rw[←Act.put_comm a v undef h2];exact h⟩
theorem H7 {i:Nat}{oi:Oper}{v:Value}(Gh:ops[i]? =some oi)(A9:∀(j:Nat) (o:Oper) cs b,ops[j]? =some o→o.op≠ .select cs b)
 (hQ:∀c a w,Q (.panic c) (a.put oi.dst v) w→Q (.panic c) a w):
 ∀(fuel:Nat) (listed:Array Bool) (a:Act) (lo hi:Nat) (W:World),
  (∀j oj,ops[j]? =some oj→j≠i→listed.getD j true=false→(∀e∈oj.after,Region.binds .any e=true→e.on≠i)→oi.apart ops oj=true)→
  i∈Region.ready .any ops listed→QX P ops lo hi W oi v a→
  GX P ops Q fuel (listed.setIfInBounds i true) (a.put oi.dst v) lo hi W→GX P ops Q (fuel+1) listed a lo hi W:=by
 intro fuel;induction fuel with
 |zero=>
  intro listed a lo hi W _ hr hy H w hw;refine⟨fun h=>(by rw[h]at hr;cases hr),fun j hj=>?_⟩;by_cases jo:j=i
  ·subst jo;exact hy.wpOp Gh hw fun w' hw'=>⟨EX.of hw',lo,hi,Wa _,Wa _,H.world (hw.trans (EX.of hw'))⟩
  ·have:=ready_mono hj jo;rw[H.1]at this;cases this
 |succ fuel ih=>
  intro listed a lo hi W rC hr hy H w hw;refine⟨fun h=>(by rw[h]at hr;cases hr),fun j hj=>?_⟩;by_cases jo:j=i
  ·subst jo;exact hy.wpOp Gh hw fun w' hw'=>⟨EX.of hw',lo,hi,Wa _,Wa _,H.world (hw.trans (EX.of hw'))⟩
  ·have h1:=(H w hw).2 j (ready_mono hj jo);obtain⟨Ba,oj,Jv,b7⟩:=mem_ready.1 hj;have Jw:∀e∈oj.after,Region.binds .any e=true→e.on≠i:=fun e he hb heq=>by
    have h1:=b7 e he hb;have h0:=(mem_ready.1 hr).1;rw[heq]at h1;rcases Wv i listed.size with h'|h'
    ·simp[h']at h0 h1;rw[h0]at h1;cases h1
    ·simp[WT h']at h1
   have h2:=Fz Jv (rC j oj Jv jo Ba Jw) (fun cs b=>A9 i oi cs b Gh) (fun cs b=>A9 j oj cs b Jv) hQ (hy.world (Wa _) (Wa _) hw) h1;have uv:∀k ok,ops[k]? =some ok→k≠i→(listed.setIfInBounds j true).getD k true=false→
    (∀e∈ok.after,Region.binds .any e=true→e.on≠i)→oi.apart ops ok=true:=fun k ok hk Jy M8 df=>by
    refine rC k ok hk Jy ?_ df;by_cases CZ:j=k
    ·subst CZ;exact Ba
    ·rw[getD_set_ne true CZ]at M8;exact M8
   refine wpOp_mono (fun a' w' ⟨h3,h4,lo',hi',h5,h6,h7⟩=>⟨h4,lo',hi',h5,h6,ih (listed.setIfInBounds j true) a' lo' hi' w' uv (ready_mono hr (Ne.symm jo)) (h3.world h5 h6 h4) ?_⟩) h2;rw[Array.setIfInBounds_comm _ _ jo];exact h7
def gT (P:Program)(ops:Array Oper)(Q:Exit→Act→World→Prop):List Oper→Nat→Array Bool→Act→Nat→Nat→World→Prop
 |[],_,_,a,lo,hi,W=>∀w,EX lo hi W w→Q .normal a w
 |o::rest,k,listed,a,lo,hi,W=>
  (∃v,QX P ops lo hi W o v a∧gT P ops Q rest (k+1) (listed.setIfInBounds k true) (a.put o.dst v) lo hi W)∨
  (Region.ready .any ops listed=[k]∧Region.wanted o (yielded ops a.tmps)=true∧∀w,EX lo hi W w→o.wp P a w (fun a' w'=>EX lo hi w w'∧∃lo' hi',lo≤lo'∧hi'≤hi∧gT P ops Q rest (k+1) (listed.setIfInBounds k true) a' lo' hi' w') Q)
theorem qt (hs:Region.noSelect ops=true)(hQ:∀c a d v w,Q (.panic c) (a.put d v) w→Q (.panic c) a w):∀(l:List Oper) (k:Nat) (listed:Array Bool) (a:Act) (lo hi:Nat) (W:World),(∀j,l[j]? =ops[k+j]?)→
 Region.lexFrom .any ops l.length k listed=true→gT P ops Q l k listed a lo hi W→GX P ops Q l.length listed a lo hi W
 |[],_,_,_,_,_,_,_,hB,h=>⟨by simpa[Region.lexFrom]using hB,h⟩
 |o::l,k,listed,a,lo,hi,W,hl,hB,h=>by
  have h0:ops[k]? =some o:=by simpa using (hl 0).symm
  simp only[Wc,Region.lexFrom,Wd]at hB;obtain⟨⟨hr,hf⟩,hB'⟩:=hB;have hl':∀j,l[j]? =ops[k+1+j]? :=fun j=>by have:=hl (j+1);simpa[XI,Nat.add_comm 1 j]using this
  rcases h with⟨v,hy,hK⟩|⟨da,yi,hK⟩
  ·exact H7 h0 (Region.noSelect_spec hs) (fun c a w=>hQ c a _ _ w) l.length listed a lo hi W (Region.free_spec h0 hf) (by simpa using hr) hy (qt hs hQ l (k+1) _ _ _ _ _ hl' hB' hK)
  ·intro w hw;refine⟨fun h=>by rw[da]at h;simp at h,fun i hi'=>?_⟩;rw[da]at hi';obtain rfl:i=k:=by simpa using hi'
   unfold wpOp;simp only[h0,yi,if_true];left;exact Oper.wp_mono (fun a' w' ⟨h1,lo',hi',h2,h3,h4⟩=>⟨h1,lo',hi',h2,h3,qt hs hQ l (i+1) _ _ _ _ _ hl' hB' h4⟩) (hK w hw)
theorem B9 {id:Nat}{a:Act}{w:World}{l:List Oper}(lo hi:Nat)(hm:P.follows .mixedOrders=true)(hB:Region.lexB .any l.toArray=true)(hQ:∀c a d v w,Q (.panic c) (a.put d v) w→Q (.panic c) a w)
 (h:gT P l.toArray Q l 0 (XB l.length false) a lo hi w):(Code.region id l.toArray true).wp P Q a w:=by
 simp only[Region.lexB,Wd]at hB;refine wp_region_any hm ?_;have h2:=qt hB.1 hQ l 0 (XB l.length false) a lo hi w (by simp) (by simpa using hB.2) h;have h3:=(h2.world (EX.of ((Below.refl _ _).drew:cW w w.drew))).any;simpa using h3
section
variable {o:Oper}{rest:List Oper}{k lo hi:Nat}{listed:Array Bool}{a:Act}{W:World}
theorem K4 (h:∀w,EX lo hi W w→Q .normal a w):gT P ops Q [] k listed a lo hi W:=h
theorem tB (hw:Region.wanted o (yielded ops a.tmps)=false)(hn:gT P ops Q rest (k+1) (listed.setIfInBounds k true) (a.put o.dst undef) lo hi W):gT P ops Q (o::rest) k listed a lo hi W:=
 .inl ⟨undef,.inr ⟨hw,rfl⟩,hn⟩
theorem tC {j d:Nat}{v:Value}(hg:o.guard=some (j,true))(hd:(ops[j]?).bind (·.dst)=some d)(hv:a.tmps.toList[d]? =some v)(hb:v= .bool false)(hn:gT P ops Q rest (k+1) (listed.setIfInBounds k true) (a.put o.dst undef) lo hi W):gT P ops Q (o::rest) k listed a lo hi W:=
 tB (by simp[Region.wanted,hg,gJ hd hv hb]) hn
theorem tD {j d:Nat}{v:Value}(hg:o.guard=some (j,false))(hd:(ops[j]?).bind (·.dst)=some d)(hv:a.tmps.toList[d]? =some v)(hb:v= .bool true)(hn:gT P ops Q rest (k+1) (listed.setIfInBounds k true) (a.put o.dst undef) lo hi W):gT P ops Q (o::rest) k listed a lo hi W:=
 tB (by simp[Region.wanted,hg,gJ hd hv hb]) hn
theorem tE {j d:Nat}{v:Value}{b:Bool}(hg:o.guard=some (j,b))(hd:(ops[j]?).bind (·.dst)=some d)(hv:a.tmps.toList[d]? =some v)(hb:v=undef)(hn:gT P ops Q rest (k+1) (listed.setIfInBounds k true) (a.put o.dst undef) lo hi W):gT P ops Q (o::rest) k listed a lo hi W:=
 tB (by simp[Region.wanted,hg,oG hd hv hb]) hn
theorem Aa {v:Value}(hw:Region.wanted o (yielded ops a.tmps)=true)(h:∀w,EX lo hi W w→∀R:Value→Prop,R v→Pz P w w R ((execOp a.eval o).run P w))
 (hn:gT P ops Q rest (k+1) (listed.setIfInBounds k true) (a.put o.dst v) lo hi W):gT P ops Q (o::rest) k listed a lo hi W:=
 .inl ⟨v,.inl ⟨hw,fun w hw=>vt (h w hw)⟩,hn⟩
theorem wl (hr:Region.ready .any ops listed=[k])(hw:Region.wanted o (yielded ops a.tmps)=true)
 (h:∀w,EX lo hi W w→∀K:Act→World→Prop,(∀a' w' lo' hi',lo≤lo'→hi'≤hi→EX lo hi w w'→gT P ops Q rest (k+1) (listed.setIfInBounds k true) a' lo' hi' w'→K a' w')→o.wp P a w K Q):gT P ops Q (o::rest) k listed a lo hi W:=
 .inr ⟨hr,hw,fun w hw=>h w hw _ fun _ _ lo' hi' g1 g2 h1 h2=>⟨h1,lo',hi',g1,g2,h2⟩⟩
end
end
section
open Go.Proofs
theorem NS (a l:Int)(h:bQ a l=true)(hl:l < 16):bits .or .i64 a (BO (l+1)+1)=a+fA (l+1):=by
 obtain⟨g1,g2,g3,g4,g5⟩:=dr h;obtain⟨n,rfl⟩:=X7 g3;have e1:BO (l+1)+1=((2 ^ (16 - (l+1)).toNat:Nat):Int):=by simp[BO]
 have e2:fA (l+1)=((2 ^ (16 - (l+1)).toNat:Nat):Int):=by simp[fA]
 obtain⟨k,hk⟩:∃k,k=(16 - (l+1)).toNat:=⟨_,rfl⟩;have e3:(16 - l).toNat=k+1:=by omega
 rw[e1,e2,←hk];have Sz:k≤15:=by omega
 have hp:2 ^ k≤2 ^ 15:=Nat.pow_le_pow_right (by omega) Sz;have g6:n % 2 ^ (k+1)=0:=by
  unfold fA at g5;rw[e3]at g5;exact_mod_cast g5
 have hn:n=2 ^ (k+1)*(n / 2 ^ (k+1)):=by have:=Yq n (2 ^ (k+1));omega
 have Sy:n|||2 ^ k=n+2 ^ k:=by
  rw[hn];exact(Nat.two_pow_add_eq_or_of_lt (Nat.pow_lt_pow_right (by omega) (by omega)) _).symm
 show IntKind.i64.wrap ((BitVec.ofInt 64 (n:Int)|||BitVec.ofInt 64 ((2 ^ k:Nat):Int)).toNat:Int)=_;rw[BitVec.toNat_or,iE n (by omega),iE _ (by omega),Sy,IntKind.wrap_i64];omega
def wm:Value:= .agg #[.int .i64 0,.int .i64 0]
def m5 (a l:Int):Value:=
 if chk a l=0 then (if l=16 then .tuple #[wm,wm,.int .i64 3]else .tuple #[.agg #[.int .i64 a,.int .i64 (l+1)],.agg #[.int .i64 (a+fA (l+1)),.int .i64 (l+1)],.int .i64 0])
 else .tuple #[wm,wm,.int .i64 (chk a l)]
theorem tF (a l:Int)(w:World):
 Calls prog 364 #[.agg #[.int .i64 a,.int .i64 l]] w fun e w'=>e= .returned (m5 a l)∧cW w w':=by
 have hc:=m0 a l;unfold m5 wm;by_cases h0:chk a l=0
 ·have hR:bQ a l=true:=by simp[bQ,h0]
  obtain⟨g1,g2,g3,g4,g5⟩:=dr hR;rw[if_pos h0];rw[h0]at hc;replace hc:=VZ hc;clear h0;by_cases Pr:l=16
  ·rw[if_pos Pr];have SA:(l==16)=true:=by simp[Pr]
   clear Pr;go_enter func364,ntmps364
   go_wp2_with fail
   refine(hc.out _).mono ?_;rintro e w1 ⟨rfl,cJ⟩;obtain⟨cM,dk⟩:=bk cJ;have dB:=b8 cJ;(try simp only[Wb,ab,Wf,We]at cM dk dB)
   go_wp2_with fail
   refine bodyPost_ret ?_ rfl ⟨rfl,Bel.bel (B:=_) ?_⟩
   ·simp[results,results364,go_sem,cM]
   ·(repeat(first|with_reducible assumption|with_reducible exact Bel.refl _|with_reducible refine Bel.alloc ?_ _|with_reducible refine Bel.drewN ?_ _|with_reducible refine Bel.drew ?_|(with_reducible refine aD ?_ ?_ _;rotate_left;(first|omega|(simp;done)|(simp;omega)))|(with_reducible refine Bel.setCell ?_ (p:=_) ?_ _;rotate_left;(first|(simp;done)|omega|(simp;omega)))|refine Bel.call ?_ (by assumption)|(refine EX.bel ?_ (by assumption) ?_;rotate_left;(first|omega|(simp;omega)))))
  ·rw[if_neg Pr];have SA:(l==16)=false:=by simp[Pr]
   have Sy:=NS a l hR (by omega);obtain⟨z1,z2⟩:=nW (l+1) (by omega);have ed:IntKind.i64.wrap (BO (l+1)+1)=BO (l+1)+1:=IntWalk.i64_in _ (by omega);have SB:=fun W=>me (l+1) W (by omega) (by omega);replace SB:=VZ SB;clear Pr;go_enter func364,ntmps364
   go_wp2_with fail
   refine(hc.out _).mono ?_;rintro e w1 ⟨rfl,cJ⟩;obtain⟨cM,dk⟩:=bk cJ;have dB:=b8 cJ;(try simp only[Wb,ab,Wf,We]at cM dk dB)
   have l1:w.heap.size < w1.heap.size:=by omega
   have l2:w.heap.size+1 < w1.heap.size:=by omega
   have l3:w.heap.size+1+1 < w1.heap.size:=by omega
   go_wp2_with fail
   refine B9 (w.heap.size+1) (w.heap.size+3) (by kernel_rfl) (by kernel_rfl) (fun _ _ d _ _ h=>by cases d<;>exact h) ?_;repeat(first|((first|refine tC rfl rfl rfl (by with_reducible rfl) ?_|refine tD rfl rfl rfl (by with_reducible rfl) ?_|refine tE rfl rfl rfl (by with_reducible rfl) ?_);simp only[Act.put,V8,Wi,Wl])|(apply Aa;(first|exact b6 rfl|exact cu rfl rfl rfl (by with_reducible rfl));intro wq ek R hR;((have gF:=AW ek (by first|omega|(simp;omega)|(simp;done));have SC:=EX.hi ek;(try simp only[Wb,ab,Wf,We]at gF SC));go_simp;first|exact hR|((go_at_call 235;exact nY (SB.out _) hR)));simp only[Act.put,V8,Wi,Wl]))
   refine wl (by kernel_rfl) (by first|exact b6 rfl|exact cu rfl rfl rfl (by with_reducible rfl)) (fun w2 cN K hK=>?_);have eH:=cN.size;have SD:=AW cN (by first|omega|(simp;omega)|(simp;done));have SE:=EX.hi cN;have ep:=cN.free;(try simp only[Wb,ab,Wf,We]at eH SD SE ep)
   (try have l0w2:w.heap.size < w2.heap.size:=by omega)
   (try have l1w2:w.heap.size+1 < w2.heap.size:=by omega)
   (try have l2w2:w.heap.size+1+1 < w2.heap.size:=by omega)
   (try have l3w2:w.heap.size+1+1+1 < w2.heap.size:=by omega)
   obtain⟨u0w2,QL⟩:=cN.some (b:=w.heap.size+1) (o:=0) (v:=_) (by go_simp;rfl);obtain⟨u1w2,QM⟩:=cN.some (b:=w.heap.size+1) (o:=1) (v:=_) (by go_simp;rfl);go_simp
   refine hK _ _ (w.heap.size+2) (w.heap.size+3) (by omega) (by omega) (by repeat(first|exact EX.refl _|refine EX.setCell ?_ (by omega) (by omega) _)) ?_;clear hK K;obtain⟨v0,MR⟩:=cN.some (b:=w.heap.size+1+1) (o:=0) (v:=_) (by go_simp;rfl);obtain⟨v1,pF⟩:=cN.some (b:=w.heap.size+1+1) (o:=1) (v:=_) (by go_simp;rfl);refine wl (by kernel_rfl) (by first|exact b6 rfl|exact cu rfl rfl rfl (by with_reducible rfl)) (fun w3 lF K hK=>?_);have C7:=lF.size;have QN:=AW lF (by first|omega|(simp;omega)|(simp;done));have SF:=EX.hi lF;have Be:=lF.free;(try simp only[Wb,ab,Wf,We]at C7 QN SF Be)
   (try have l0w3:w.heap.size < w3.heap.size:=by omega)
   (try have l1w3:w.heap.size+1 < w3.heap.size:=by omega)
   (try have l2w3:w.heap.size+1+1 < w3.heap.size:=by omega)
   (try have l3w3:w.heap.size+1+1+1 < w3.heap.size:=by omega)
   obtain⟨u0w3,QO⟩:=lF.some (b:=w.heap.size+1+1) (o:=0) (v:=_) (by go_simp;rfl);obtain⟨u1w3,QP⟩:=lF.some (b:=w.heap.size+1+1) (o:=1) (v:=_) (by go_simp;rfl);go_simp
   refine hK _ _ (w.heap.size+3) (w.heap.size+3) (by omega) (by omega) (by repeat(first|exact EX.refl _|refine EX.setCell ?_ (by omega) (by omega) _)) ?_;clear hK K;repeat(first|((first|refine tC rfl rfl rfl (by with_reducible rfl) ?_|refine tD rfl rfl rfl (by with_reducible rfl) ?_|refine tE rfl rfl rfl (by with_reducible rfl) ?_);simp only[Act.put,V8,Wi,Wl])|(apply Aa;(first|exact b6 rfl|exact cu rfl rfl rfl (by with_reducible rfl));intro wq ek R hR;((have gF:=AW ek (by first|omega|(simp;omega)|(simp;done));have SC:=EX.hi ek;(try simp only[Wb,ab,Wf,We]at gF SC));go_simp;first|exact hR|(fail));simp only[Act.put,V8,Wi,Wl]))
   refine K4 ?_;intro w4 JA;have SG:=JA.size;have QQ:=AW JA (by first|omega|(simp;omega)|(simp;done));have SH:=EX.hi JA;have SI:=JA.free;(try simp only[Wb,ab,Wf,We]at SG QQ SH SI)
   (try have l0w4:w.heap.size < w4.heap.size:=by omega)
   (try have l1w4:w.heap.size+1 < w4.heap.size:=by omega)
   (try have l2w4:w.heap.size+1+1 < w4.heap.size:=by omega)
   (try have l3w4:w.heap.size+1+1+1 < w4.heap.size:=by omega)
   go_wp2_with fail
   refine bodyPost_ret ?_ rfl ⟨rfl,Bel.bel (B:=_) ?_⟩
   ·simp[results,results364,go_sem,QQ,QN,QL,QM,QO,QP]
   ·(repeat(first|with_reducible assumption|with_reducible exact Bel.refl _|with_reducible refine Bel.alloc ?_ _|with_reducible refine Bel.drewN ?_ _|with_reducible refine Bel.drew ?_|(with_reducible refine aD ?_ ?_ _;rotate_left;(first|omega|(simp;done)|(simp;omega)))|(with_reducible refine Bel.setCell ?_ (p:=_) ?_ _;rotate_left;(first|(simp;done)|omega|(simp;omega)))|refine Bel.call ?_ (by assumption)|(refine EX.bel ?_ (by assumption) ?_;rotate_left;(first|omega|(simp;omega)))))
 ·rw[if_neg h0];replace h0:(chk a l !=0)=true:=by simpa using h0
  obtain⟨r,hr⟩:∃r,r=chk a l:=⟨_,rfl⟩;rw[←hr]at hc h0 ⊢;clear hr;replace hc:=VZ hc;go_enter func364,ntmps364
  go_wp2_with fail
  refine(hc.out _).mono ?_;rintro e w1 ⟨rfl,cJ⟩;obtain⟨cM,dk⟩:=bk cJ;have dB:=b8 cJ;(try simp only[Wb,ab,Wf,We]at cM dk dB)
  go_wp2_with fail
  refine bodyPost_ret ?_ rfl ⟨rfl,Bel.bel (B:=_) ?_⟩
  ·simp[results,results364,go_sem,cM]
  ·(repeat(first|with_reducible assumption|with_reducible exact Bel.refl _|with_reducible refine Bel.alloc ?_ _|with_reducible refine Bel.drewN ?_ _|with_reducible refine Bel.drew ?_|(with_reducible refine aD ?_ ?_ _;rotate_left;(first|omega|(simp;done)|(simp;omega)))|(with_reducible refine Bel.setCell ?_ (p:=_) ?_ _;rotate_left;(first|(simp;done)|omega|(simp;omega)))|refine Bel.call ?_ (by assumption)|(refine EX.bel ?_ (by assumption) ?_;rotate_left;(first|omega|(simp;omega)))))
end
section
open Go.Proofs
theorem Ca (b:Nat)(p q:Pfx)(w:World)(h0:w.cell? ⟨b,0,none⟩=some (.int .i64 p.at_))(h1:w.cell? ⟨b,1,none⟩=some (.int .i64 p.len)):
 Calls prog 375 #[.agg #[.int .i64 q.at_,.int .i64 q.len],.pointer (some ⟨b,0,none⟩)] w fun e w'=>e= .returned (.bool (p.meets q))∧cW w w':=by
 have hlt:=cQ h0;have hm:=wa p.at_ p.len q.at_ q.len;obtain⟨r,hr⟩:∃r,r=p.meets q:=⟨_,rfl⟩;unfold Pfx.meets at hr;rw[←hr]at hm;unfold Pfx.meets;rw[←hr];clear hr;replace hm:=VZ hm;go_enter func375,ntmps375
 go_wp2_with fail
 refine(hm.out _).mono ?_;rintro e w1 ⟨rfl,cJ⟩;obtain⟨cM,dk⟩:=bk cJ;have dB:=b8 cJ;(try simp only[Wb,ab,Wf,We]at cM dk dB)
 go_wp2_with fail
 go_ret
 refine⟨rfl,Bel.bel (B:=_) ?_⟩;(repeat(first|with_reducible assumption|with_reducible exact Bel.refl _|with_reducible refine Bel.alloc ?_ _|with_reducible refine Bel.drewN ?_ _|with_reducible refine Bel.drew ?_|(with_reducible refine aD ?_ ?_ _;rotate_left;(first|omega|(simp;done)|(simp;omega)))|(with_reducible refine Bel.setCell ?_ (p:=_) ?_ _;rotate_left;(first|(simp;done)|omega|(simp;omega)))|refine Bel.call ?_ (by assumption)|(refine EX.bel ?_ (by assumption) ?_;rotate_left;(first|omega|(simp;omega)))))
theorem Cb (b:Nat)(p:Pfx)(us:List Pfx)(w:World)(h0:w.cell? ⟨b,0,none⟩=some (.int .i64 p.at_))(h1:w.cell? ⟨b,1,none⟩=some (.int .i64 p.len)):
 H6 prog 375 #[.pointer (some ⟨b,0,none⟩)] Pfx.R (fun q=>p.meets q) us w:=by
 intro W hW x _ cs hR;unfold Pfx.R at hR;subst hR;exact Ca b p x W (cl hW h0) (cl hW h1)
theorem i6 {A:kJ}(us:List Pfx)(uo:Option Addr)(ucap:Nat)(p:Pfx)(w:World)(h:Sl A w 2 Pfx.R uo ucap us):
 Calls prog 363 #[.slice uo us.length ucap,.agg #[.int .i64 p.at_,.int .i64 p.len]] w fun e w'=>e= .returned (.bool (us.any fun q=>p.meets q))∧cW w w':=by
 have hc:=fun W (hs:Sl A W 2 Pfx.R uo ucap us) h0 h1=>tz 375 #[.pointer (some ⟨w.heap.size,0,none⟩)] (enters_of func375 (by kernel_rfl) rfl) (fun q=>p.meets q) us uo ucap W hs (Cb w.heap.size p us W h0 h1);obtain⟨r,hr⟩:∃r,r=us.any fun q=>p.meets q:=⟨_,rfl⟩;rw[←hr]at hc ⊢;clear hr;replace hc:=VZ hc;go_enter func363,ntmps363
 go_wp2_with fail
 refine(hc.out _ (h.ext (am _ _)) (by simp) (by simp)).mono ?_;rintro e w1 ⟨rfl,nc⟩;go_wp2_with fail
 go_ret
 exact⟨rfl,ai (am _ _) nc⟩
end
section
open Go.Proofs Go.Shelf
attribute [local go_sem] Oper.semAt_some
def d5 (us:List Pfx):Nat→Pfx→List Pfx
 |0,p=>if us.any p.meets then []else [p]
 |n+1,p=>if us.any p.meets then (if us.contains p then []else d5 us n p.low++d5 us n p.high)else [p]
theorem FA {p:Pfx}(h:p.right=true)(hl:p.len < 16):p.low.right=true:=by
 obtain⟨g1,g2,g3,g4,g5⟩:=dr h;refine zK (by simp[Pfx.low];omega) (by simp[Pfx.low];omega) g3 g4 ?_;show p.at_ % fA (p.len+1)=0;rw[tq g1 hl]at g5;exact Int.emod_eq_zero_of_dvd (Int.dvd_trans ⟨2,by omega⟩ (Ya g5))
theorem Cc {p:Pfx}(h:p.right=true)(hl:p.len < 16):p.high.right=true:=by
 obtain⟨g1,g2,g3,g4,g5⟩:=dr h;have hf:=wb h;have hh:=tq g1 hl;have hs:=fQ (n:=p.len+1) (by omega);refine zK (by simp[Pfx.high];omega) (by simp[Pfx.high];omega) (by simp[Pfx.high];omega) (by simp[Pfx.high];omega) ?_;show (p.at_+fA (p.len+1)) % fA (p.len+1)=0;rw[Int.add_emod_right];rw[hh]at g5;exact Int.emod_eq_zero_of_dvd (Int.dvd_trans ⟨2,by omega⟩ (Ya g5))
structure KP (own:World→Nat→Prop)(W W':World):Prop where
 size:W.heap.size≤W'.heap.size
 cells:∀b c t f,¬own W b→W.heap[b]? =some (.cells c t f)→W'.heap[b]? =some (.cells c t f)
 own:∀b,b < W.heap.size→own W' b→own W b
theorem mw {w:World}{b:Nat}{o:Obj}(h:w.heap[b]? =some o):b < w.heap.size:=by
 rcases Wv b w.heap.size with h'|h'
 ·exact h'
 ·simp[WT h']at h
theorem KP.trans {own:World→Nat→Prop}{a b c:World}(h:KP own a b)(k:KP own b c):KP own a c:=
 ⟨W6 h.size k.size,fun i x t f hn hc=>k.cells i x t f (fun ho=>hn (h.own i (mw hc) ho)) (h.cells i x t f hn hc),fun i hi ho=>h.own i hi (k.own i (W4 hi h.size) ho)⟩
theorem KP.of {own:World→Nat→Prop}{a b:World}(h:cW a b)(ho:∀i,own b i→own a i):KP own a b:=
 ⟨h.size,fun i x t f _ hc=>pQ h hc,fun i _ hi=>ho i hi⟩
theorem KP.cell {own:World→Nat→Prop}{a b:World}(h:KP own a b){i o:Nat}{v:Value}(hn:¬own a i)(hc:a.cell? ⟨i,o,none⟩=some v):b.cell? ⟨i,o,none⟩=some v:=by
 have hlt:=cQ hc;obtain⟨x,hx⟩:∃x,a.heap[i]? =some x:=⟨_,Xj hlt⟩;cases x with
 |cells c t f=>
  have:=h.cells i c t f hn hx;simp only[Xl,hx,this]at hc ⊢;exact hc
 |_=>simp[Xl,hx]at hc
theorem Sl.kp {α:Type}{own:World→Nat→Prop}{n₀:Nat}{w w':World}{k:Nat}{R:List Value→α→Prop}{ao:Option Addr}{cap:Nat}{l:List α}(h:Sl (fun b=>b < n₀) w k R ao cap l)(ho:∀b,own w b→n₀≤b)(hb:KP own w w'):Sl (fun b=>b < n₀) w' k R ao cap l:=by
 refine⟨h.cap_le,h.cap_max,fun i hi=>?_⟩;obtain⟨b,off,cs,h1,h2,h3,h4,h5⟩:=h.elem i hi;exact⟨b,off,cs,h1,h2,h3,h4,fun j hj=>hb.cell (fun hx=>by have:=ho b hx;omega) (h5 j hj)⟩
theorem xz {F:Fence}(hd:F.depth=none)(k:Nat):F.room k:=fun d h=>by rw[hd]at h;cases h
theorem RoundIn.anyDepth {F:Fence}(hd:F.depth=none){m m':Nat}{P:Program}{l:Nat}{f:FuncId}{tmps:Array Value}{assign body:Code}{w:World}{R:Ending→World→Prop}
 (h:RoundIn F m P l f tmps assign body w R):RoundIn F m' P l f tmps assign body w R:=⟨h.1,fun c cs _=>h.2 c cs (xz hd _)⟩
theorem YieldAt.anyDepth {F:Fence}(hd:F.depth=none){m:Nat}(m':Nat){P:Program}{l:Nat}{args:Array Value}{W:World}{R:Ending→World→Prop}(h:YieldAt F m P l args W R):YieldAt F m' P l args W R:=by
 obtain⟨fn,tmps,assign,body,hy,hR⟩:=h;exact⟨fn,tmps,assign,body,hy,RoundIn.anyDepth hd hR⟩
def DR (own:World→Nat→Prop)(J Jx:List Pfx→World→Prop)(pre L:List Pfx)(W:World)(e:Ending)(W':World):Prop:=
 (e= .returned (.bool true)∧J (pre++L) W'∧KP own W W')∨(e= .returned (.bool false)∧∃q,q <+:L∧Jx (pre++q) W')
structure LoopOK (own:World→Nat→Prop)(n₀ N l:Nat)(J Jx:List Pfx→World→Prop):Prop where
 ext:∀s A B,J s A→cW A B→J s B
 extx:∀s A B,Jx s A→cW A B→Jx s B
 own1:∀s A b,J s A→own A b→n₀≤b∧b < A.heap.size
 own2:∀s A B b,J s A→cW A B→own B b→own A b
 round:∀m pre (x:Pfx) W,J pre W→pre.length < N→YieldAt Fence.wide m prog l #[x.v] W fun e W'=>
  (e= .returned (.bool true)∧J (pre++[x]) W'∧KP own W W')∨(e= .returned (.bool false)∧Jx (pre++[x]) W')
theorem LoopOK.kp {own:World→Nat→Prop}{n₀ N l:Nat}{J Jx:List Pfx→World→Prop}(hL:LoopOK own n₀ N l J Jx){s:List Pfx}{A B:World}(hj:J s A)(hx:cW A B):KP own A B:=KP.of hx fun b=>hL.own2 s A B b hj hx
section
variable (own:World→Nat→Prop)(l n₀ N:Nat)(us:List Pfx)(uo:Option Addr)(ucap:Nat)(J Jx:List Pfx→World→Prop)(hL:LoopOK own n₀ N l J Jx)
include hL
theorem wn (p:Pfx)(m:Nat)(pre:List Pfx)(W:World)(hM:us.any p.meets=false)(hs:Sl (fun b=>b < n₀) W 2 Pfx.R uo ucap us)(hj:J pre W)(hN:pre.length+1≤N):
 CallsIn Fence.wide m prog 333 #[p.v,.slice uo us.length ucap,.func (.yield l) #[] #[]] W (DR own J Jx pre [p] W):=by
 have hm:=fun W' (h:Sl (fun b=>b < n₀) W' 2 Pfx.R uo ucap us)=>i6 us uo ucap p W' h;rw[hM]at hm;replace hm:=VZ hm;clear hM;unfold Pfx.v;refine callsIn_of_wp func333 rfl trivial ?_ rfl;simp only[ntmps333,Xb,Wc,WM,Ws,YS,X4,X5,Yu,Ye,WO,WH];gi_wp2_with fail
 refine⟨trivial,fun h=>(by cases h),?_⟩;refine(callsIn_wide.2 (hm.out _ (hs.ext (am _ _)))).mono ?_;rintro e w1 ⟨rfl,cJ⟩;obtain⟨cM,dk⟩:=bk cJ;have dB:=b8 cJ;(try simp only[Wb,ab,Wf,We]at cM dk dB)
 have nc:=ai (am _ _) cJ;obtain⟨fn,tmps,assign,body,hy,UW⟩:=hL.round (m - 1) pre p w1 (hL.ext _ _ _ hj nc) (by omega);unfold Pfx.v at hy;have mO:=hL.kp hj nc;gi_wp2_with fail
 refine⟨fun h=>(by cases h),?_⟩;refine UW.mono ?_;rintro e w2 (⟨rfl,Gt,lx⟩|⟨rfl,qF⟩)
 ·gi_wp2_with fail
  go_ret
  exact .inl ⟨rfl,Gt,mO.trans lx⟩
 ·gi_wp2_with fail
  go_ret
  exact .inr ⟨rfl,[p],List.prefix_refl _,qF⟩
theorem K5:∀(n:Nat) (p:Pfx) (m:Nat) (pre:List Pfx) (W:World),16 - p.len=(n:Int)→p.right=true→Sl (fun b=>b < n₀) W 2 Pfx.R uo ucap us→J pre W→pre.length+(d5 us n p).length≤N→
 CallsIn Fence.wide m prog 333 #[p.v,.slice uo us.length ucap,.func (.yield l) #[] #[]] W (DR own J Jx pre (d5 us n p) W):=by
 intro n;induction n with
 |zero=>
  intro p m pre W hn hr hs hj hN;cases hM:us.any p.meets
  ·unfold d5 at hN ⊢;rw[hM]at hN ⊢;simp only[XF,if_false,Wc,WM]at hN ⊢;exact wn own l n₀ N us uo ucap J Jx hL p m pre W hM hs hj (by omega)
  ·unfold d5;rw[hM,if_pos rfl];have hm:=fun W' (h:Sl (fun b=>b < n₀) W' 2 Pfx.R uo ucap us)=>i6 us uo ucap p W' h;rw[hM]at hm;have hh:=tF p.at_ p.len;have hc:chk p.at_ p.len=0:=by have:=hr;unfold Pfx.right bQ at this;simpa using this
   have hl:p.len=16:=by omega
   have hv:m5 p.at_ p.len= .tuple #[.agg #[.int .i64 0,.int .i64 0],.agg #[.int .i64 0,.int .i64 0],.int .i64 3]:=by unfold m5 wm;rw[if_pos hc,if_pos hl]
   rw[hv]at hh;clear hv hc hM hN hl hn hr;replace hm:=VZ hm;replace hh:=VZ hh;unfold Pfx.v;refine callsIn_of_wp func333 rfl trivial ?_ rfl;simp only[ntmps333,Xb,Wc,WM,Ws,YS,X4,X5,Yu,Ye,WO,WH];gi_wp2_with fail
   refine⟨trivial,fun h=>(by cases h),?_⟩;refine(callsIn_wide.2 (hm.out _ (hs.ext (am _ _)))).mono ?_;rintro e w1 ⟨rfl,cJ⟩;obtain⟨cM,dk⟩:=bk cJ;have dB:=b8 cJ;(try simp only[Wb,ab,Wf,We]at cM dk dB)
   have nc:=ai (am _ _) cJ;have l1:W.heap.size < w1.heap.size:=by omega
   gi_wp2_with fail
   refine⟨trivial,fun h=>(by cases h),?_⟩;refine(callsIn_wide.2 (hh.out _)).mono ?_;rintro e w2 ⟨rfl,cN⟩;obtain⟨eQ,ep⟩:=bk cN;have eH:=b8 cN;(try simp only[Wb,ab,Wf,We]at eQ ep eH)
   have l2:W.heap.size < w2.heap.size:=by omega
   gi_wp2_with fail
   refine⟨trivial,?_⟩;gi_wp2_with fail
   go_ret
   exact .inl ⟨rfl,by rw[WV];exact hL.ext _ _ _ hj (ai nc (ai cN (ai (am _ _) (am _ _)))),hL.kp hj (ai nc (ai cN (ai (am _ _) (am _ _))))⟩
 |succ n ih=>
  intro p m pre W hn hr hs hj hN;cases hM:us.any p.meets
  ·unfold d5 at hN ⊢;rw[hM]at hN ⊢;simp only[XF,if_false,Wc,WM]at hN ⊢;exact wn own l n₀ N us uo ucap J Jx hL p m pre W hM hs hj (by omega)
  ·have hm:=fun W' (h:Sl (fun b=>b < n₀) W' 2 Pfx.R uo ucap us)=>i6 us uo ucap p W' h;rw[hM]at hm;have hh:=tF p.at_ p.len;have hc:chk p.at_ p.len=0:=by have:=hr;unfold Pfx.right bQ at this;simpa using this
   have hl:p.len < 16:=by omega
   have hv:m5 p.at_ p.len= .tuple #[.agg #[.int .i64 p.at_,.int .i64 (p.len+1)],.agg #[.int .i64 (p.at_+fA (p.len+1)),.int .i64 (p.len+1)],.int .i64 0]:=by unfold m5;rw[if_pos hc,if_neg (by omega)]
   rw[hv]at hh;have uB:=fun W' (h:Sl (fun b=>b < n₀) W' 2 Pfx.R uo ucap us)=>B8 p us uo ucap W' h;unfold d5 at hN ⊢;rw[hM,if_pos rfl]at hN ⊢;clear hv hc hM;replace hm:=VZ hm;replace hh:=VZ hh;cases hC:us.contains p
   ·rw[hC]at uB hN;simp only[XF,if_false,V9]at hN ⊢;replace uB:=VZ uB;have ihl:=fun m' pre' W'=>ih p.low m' pre' W' (by simp[Pfx.low];omega) (FA hr hl);have ihr:=fun m' pre' W'=>ih p.high m' pre' W' (by simp[Pfx.high];omega) (Cc hr hl);obtain⟨L,T3⟩:∃L,L=d5 us n p.low:=⟨_,rfl⟩;obtain⟨M,RA⟩:∃M,M=d5 us n p.high:=⟨_,rfl⟩;rw[←T3]at ihl hN ⊢;rw[←RA]at ihr hN ⊢;simp only[Pfx.v,Pfx.low]at ihl;simp only[Pfx.v,Pfx.high]at ihr;replace ihl:=VZ ihl;replace ihr:=VZ ihr;clear ih T3 RA hC hl hn hr;unfold Pfx.v;refine callsIn_of_wp func333 rfl trivial ?_ rfl;simp only[ntmps333,Xb,Wc,WM,Ws,YS,X4,X5,Yu,Ye,WO,WH];gi_wp2_with fail
    refine⟨trivial,fun h=>(by cases h),?_⟩;refine(callsIn_wide.2 (hm.out _ (hs.ext (am _ _)))).mono ?_;rintro e w1 ⟨rfl,cJ⟩;obtain⟨cM,dk⟩:=bk cJ;have dB:=b8 cJ;(try simp only[Wb,ab,Wf,We]at cM dk dB)
    have nc:=ai (am _ _) cJ;have l1:W.heap.size < w1.heap.size:=by omega
    gi_wp2_with fail
    refine⟨trivial,fun h=>(by cases h),?_⟩;refine(callsIn_wide.2 (hh.out _)).mono ?_;rintro e w2 ⟨rfl,cN⟩;obtain⟨eQ,ep⟩:=bk cN;have eH:=b8 cN;(try simp only[Wb,ab,Wf,We]at eQ ep eH)
    have qF:=ai nc cN;have l2:W.heap.size < w2.heap.size:=by omega
    gi_wp2_with fail
    refine⟨trivial,fun h=>(by cases h),?_⟩;refine(callsIn_wide.2 (uB.out _ ((hs.ext qF).ext (ai (am _ _) (am _ _))))).mono ?_;rintro e w3 ⟨rfl,lF⟩;obtain⟨vq,Be⟩:=bk lF;have C7:=b8 lF;(try simp only[Wb,ab,Wf,We]at vq Be C7)
    have Gm:=ai qF (ai (ai (am _ _) (am _ _)) lF);have T4:=hL.ext _ _ _ hj Gm;have UX:=hL.kp hj Gm;have l3:w2.heap.size < w3.heap.size:=by omega
    have l4:w2.heap.size+1 < w3.heap.size:=by omega
    have l5:W.heap.size < w3.heap.size:=by omega
    have d0:w3.cell? ⟨w2.heap.size,0,none⟩=some (.int .i64 p.at_):=by rw[vq _ _ (by omega)];go_simp
    have d1:w3.cell? ⟨w2.heap.size,1,none⟩=some (.int .i64 (p.len+1)):=by rw[vq _ _ (by omega)];go_simp
    have e0:w3.cell? ⟨w2.heap.size+1,0,none⟩=some (.int .i64 (p.at_+fA (p.len+1))):=by rw[vq _ _ (by omega)];go_simp
    have e1:w3.cell? ⟨w2.heap.size+1,1,none⟩=some (.int .i64 (p.len+1)):=by rw[vq _ _ (by omega)];go_simp
    have no:¬own w3 (w2.heap.size+1):=fun ho=>by
     have:=(hL.own1 _ _ _ hj (hL.own2 _ _ _ _ hj Gm ho)).2;omega
    have T5:=hs.ext Gm;clear vq Be eQ ep cM dk;gi_wp2_with fail
    refine⟨trivial,fun h=>(by cases h),?_⟩;refine(ihl.out _ pre _ T5 T4 (by omega)).mono ?_;rintro e w4 (⟨rfl,UY,RC⟩|⟨rfl,q,hq,Po⟩)
    ·have UZ:=T5.kp (fun b hb=>(hL.own1 _ _ _ T4 hb).1) RC;have e0':=RC.cell no e0;have e1':=RC.cell no e1;clear e0 e1 d0 d1;gi_wp2_with fail
     refine⟨trivial,fun h=>(by cases h),?_⟩;refine(ihr.out _ _ _ UZ UY (by simp;omega)).mono ?_;rintro e w5 (⟨rfl,U0,U1⟩|⟨rfl,q,hq,U2⟩)
     ·gi_wp2_with fail
      go_ret
      exact .inl ⟨rfl,by rw[←WE];exact U0,UX.trans (RC.trans U1)⟩
     ·gi_wp2_with fail
      go_ret
      obtain⟨r,hr⟩:=hq;exact .inr ⟨rfl,L++q,⟨r,by rw[←hr];simp⟩,by rw[←WE];exact U2⟩
    ·gi_wp2_with fail
     refine⟨trivial,?_⟩;gi_wp2_with fail
     go_ret
     exact .inr ⟨rfl,q,hq.trans (List.prefix_append _ _),Po⟩
   ·rw[hC]at uB;rw[if_pos rfl];replace uB:=VZ uB;clear ih hC hl hn hr hN;unfold Pfx.v;refine callsIn_of_wp func333 rfl trivial ?_ rfl;simp only[ntmps333,Xb,Wc,WM,Ws,YS,X4,X5,Yu,Ye,WO,WH];gi_wp2_with fail
    refine⟨trivial,fun h=>(by cases h),?_⟩;refine(callsIn_wide.2 (hm.out _ (hs.ext (am _ _)))).mono ?_;rintro e w1 ⟨rfl,cJ⟩;obtain⟨cM,dk⟩:=bk cJ;have dB:=b8 cJ;(try simp only[Wb,ab,Wf,We]at cM dk dB)
    have nc:=ai (am _ _) cJ;have l1:W.heap.size < w1.heap.size:=by omega
    gi_wp2_with fail
    refine⟨trivial,fun h=>(by cases h),?_⟩;refine(callsIn_wide.2 (hh.out _)).mono ?_;rintro e w2 ⟨rfl,cN⟩;obtain⟨eQ,ep⟩:=bk cN;have eH:=b8 cN;(try simp only[Wb,ab,Wf,We]at eQ ep eH)
    have qF:=ai nc cN;have l2:W.heap.size < w2.heap.size:=by omega
    gi_wp2_with fail
    refine⟨trivial,fun h=>(by cases h),?_⟩;refine(callsIn_wide.2 (uB.out _ ((hs.ext qF).ext (ai (am _ _) (am _ _))))).mono ?_;rintro e w3 ⟨rfl,lF⟩;obtain⟨vq,Be⟩:=bk lF;have C7:=b8 lF;(try simp only[Wb,ab,Wf,We]at vq Be C7)
    have Gm:=ai qF (ai (ai (am _ _) (am _ _)) lF);gi_wp2_with fail
    go_ret
    exact .inl ⟨rfl,by simpa using hL.ext _ _ _ hj Gm,hL.kp hj Gm⟩
end
end
section
open Go.Proofs Go.Shelf
attribute [local go_sem] Oper.semAt_some
theorem H8 (p:Pfx)(uo:Option Addr)(k ucap:Nat)(w:World):
 Calls prog 280 #[p.v,.slice uo k ucap] w fun e w'=>e= .returned (.func (.func 332) #[] #[.pointer (some ⟨w.heap.size,0,none⟩),.pointer (some ⟨w.heap.size+1,0,none⟩)])∧
  w'=(w.alloc (.cells #[.int .i64 p.at_,.int .i64 p.len] 23)).alloc (.cells #[.slice uo k ucap] 147):=by
 unfold Pfx.v;go_enter func280,ntmps280
 go_wp2_with fail
 go_ret
 exact⟨rfl,rfl⟩
theorem tG {β:Type}{B:Nat}{J:β→World→Prop}(h:AbidesFrom B J):∀s X Y,J s X→cW X Y→J s Y:=fun s X Y hj hx=>
 h s X Y none hj ⟨hx.os,hx.tape,hx.output,hx.size,fun b hb _=>hx.block b hb⟩ (fun r e=>by cases e)
def KG (own:World→Nat→Prop)(G:World→Prop)(W W':World):Prop:=G W→KP own W W'∧G W'
theorem H9 (own:World→Nat→Prop)(G:World→Prop)(l n₀ b1 b2:Nat)(us:List Pfx)(uo:Option Addr)(ucap:Nat)(p:Pfx)(n:Nat)(hn:16 - p.len=(n:Int))(hr:p.right=true)(J Jx:List Pfx→World→Prop)
 (m:Nat) (hL:LoopOK own n₀ (d5 us n p).length l J Jx) (W:World) (c0:W.cell? ⟨b1,0,none⟩=some (.int .i64 p.at_)) (c1:W.cell? ⟨b1,1,none⟩=some (.int .i64 p.len)) (c2:W.cell? ⟨b2,0,none⟩=some (.slice uo us.length ucap))
 (hs:Sl (fun b=>b < n₀) W 2 Pfx.R uo ucap us) (h0:J [] W):
 CallsIn Fence.wide m prog 332 #[.func (.yield l) #[] #[],.pointer (some ⟨b1,0,none⟩),.pointer (some ⟨b2,0,none⟩)] W fun e W'=>(∃v,e= .returned v)∧
  ((∃ys,ys=d5 us n p∧J ys W')∨(∃pre,pre <+:d5 us n p∧Jx pre W')):=by
 have hd:=K5 own l n₀ (d5 us n p).length us uo ucap J Jx hL n p (m - 1) [] W hn hr hs h0 (by simp);simp only[Pfx.v]at hd;replace hd:=VZ hd;clear hL hn hr;refine callsIn_of_wp func332 rfl trivial ?_ rfl;simp only[ntmps332,Xb,Wc,WM,Ws,YS,X4,X5,Yu,Ye,WO,WH];gi_wp2_with fail
 refine⟨trivial,fun h=>(by cases h),?_⟩;refine hd.out.mono ?_;rintro e w1 (⟨rfl,hj,hk⟩|⟨rfl,q,hq,hx⟩)
 ·gi_wp2_with fail
  go_end0
  exact⟨⟨_,rfl⟩,.inl ⟨_,rfl,by simpa using hj⟩⟩
 ·gi_wp2_with fail
  go_end0
  exact⟨⟨_,rfl⟩,.inr ⟨q,hq,by simpa using hx⟩⟩
theorem Cd (own:World→Nat→Prop)(G:World→Prop)(m n₀ b1 b2:Nat)(us:List Pfx)(uo:Option Addr)(ucap:Nat)(p:Pfx)(n:Nat)(hn:16 - p.len=(n:Int))(hr:p.right=true)(w:World)
 (U3:G w) (U4:∀A b,G A→own A b→n₀≤b∧b < A.heap.size) (U5:∀A B b,G A→cW A B→own B b→own A b) (T6:∀A B,G A→cW A B→G B)
 (c0:w.cell? ⟨b1,0,none⟩=some (.int .i64 p.at_)) (c1:w.cell? ⟨b1,1,none⟩=some (.int .i64 p.len)) (c2:w.cell? ⟨b2,0,none⟩=some (.slice uo us.length ucap))
 (hs:Sl (fun b=>b < n₀) w 2 Pfx.R uo ucap us):
 SeqStopsK Fence.wide m prog 332 #[.pointer (some ⟨b1,0,none⟩),.pointer (some ⟨b2,0,none⟩)] (fun x:Pfx=>#[x.v]) (KG own G) (fun ys=>ys=d5 us n p) (fun pre=>pre <+:d5 us n p) (d5 us n p).length w:=by
 intro l J Jx W hW hJ SJ hY h0;have hL:LoopOK own n₀ (d5 us n p).length l (fun s A=>J s A∧G A) Jx:=by
  refine⟨fun s A B h hx=>⟨tG hJ s A B h.1 hx,T6 A B h.2 hx⟩,fun s A B h hx=>tG SJ s A B h hx,fun s A b h ho=>U4 A b h.2 ho,fun s A B b h hx ho=>U5 A B b h.2 hx ho,fun m' pre x W1 h hl=>?_⟩;refine YieldAt.mono (YieldAt.anyDepth rfl m' (hY pre x W1 h.1 hl)) fun e W2 h2=>?_;rcases h2 with⟨he,hj,hk⟩|h2
  ·exact .inl ⟨he,⟨hj,(hk h.2).2⟩,(hk h.2).1⟩
  ·exact .inr h2
 refine(H9 own G l n₀ b1 b2 us uo ucap p n hn hr (fun s A=>J s A∧G A) Jx m hL W (cl hW c0) (cl hW c1) (cl hW c2) (hs.ext hW) ⟨h0,T6 _ _ U3 hW⟩).mono ?_;rintro e W' ⟨hv,⟨ys,hy,hj⟩|h⟩
 ·exact⟨hv,.inl ⟨ys,hy,hj.1⟩⟩
 ·exact⟨hv,.inr h⟩
end
section
open Go.Proofs
def gz (root:Pfx):Int→List Pfx→Bool
 |_,[]=>true
 |free,p::ps=>kV p root&&(decide (free≤p.at_)&&gz root (p.at_+fA p.len) ps)
theorem ri (root:Pfx)(f:Int)(p:Pfx)(ps:List Pfx):gz root f (p::ps)=(kV p root&&(decide (f≤p.at_)&&gz root (p.at_+fA p.len) ps)):=rfl
def iz (root:Pfx)(us:List Pfx):Int:=if us.length>32 then 2 else if chk root.at_ root.len=0 then (if gz root root.at_ us then 0 else 1)else 1
theorem Ce {a l b m:Int}(h:mn a l b m=true):bQ a l=true:=by
 unfold mn at h;simp at h;exact h.1.1.1
theorem fU {A:kJ}(root:Pfx)(us:List Pfx)(uo:Option Addr)(ucap:Nat)(w:World)(h:Sl A w 2 Pfx.R uo ucap us):
 Calls prog 115 #[.agg #[.int .i64 root.at_,.int .i64 root.len,.slice uo us.length ucap]] w fun e w'=>e= .returned (.int .i64 (iz root us))∧cW w w':=by
 have gh:=h.cap_le;have Gr:=h.cap_max;by_cases jK:us.length>32
 ·have hr:iz root us=2:=by unfold iz;rw[if_pos jK]
  rw[hr];have hI:(32:Int) < (us.length:Int):=by omega
  clear hr jK;go_enter func115,ntmps115
  go_wp2_with fail
  go_ret
  refine⟨rfl,Bel.bel (B:=_) ?_⟩;(repeat(first|with_reducible assumption|with_reducible exact Bel.refl _|with_reducible refine Bel.alloc ?_ _|with_reducible refine Bel.drewN ?_ _|with_reducible refine Bel.drew ?_|(with_reducible refine aD ?_ ?_ _;rotate_left;(first|omega|(simp;done)|(simp;omega)))|(with_reducible refine Bel.setCell ?_ (p:=_) ?_ _;rotate_left;(first|(simp;done)|omega|(simp;omega)))|refine Bel.call ?_ (by assumption)|(refine EX.bel ?_ (by assumption) ?_;rotate_left;(first|omega|(simp;omega)))))
 ·have hI:(us.length:Int)≤32:=by omega
  have bn:=m0 root.at_ root.len;by_cases hc:chk root.at_ root.len=0
  ·obtain⟨r,hr⟩:∃r,r=iz root us:=⟨_,rfl⟩;rw[←hr];have x7:r=if gz root root.at_ us then 0 else 1:=by rw[hr];unfold iz;rw[if_neg jK,if_pos hc]
   rw[hc]at bn;clear hr hc jK;replace hr:=VZ x7;clear x7;replace bn:=VZ bn;go_enter func115,ntmps115
   go_wp2_with fail
   refine(bn.out _).mono ?_;rintro e w1 ⟨rfl,cJ⟩;obtain⟨cM,dk⟩:=bk cJ;have dB:=b8 cJ;(try simp only[Wb,ab,Wf,We]at cM dk dB)
   have l1:w.heap.size < w1.heap.size:=by omega
   go_wp2_with fail
   go_loopw [3,20] (fun s3 s20 wr=>∃(k:Nat) (f:Int),k≤us.length∧s20= .int .i64 k∧s3= .int .i64 f∧Hid (gz root root.at_ us=gz root f (us.drop k))∧cW w1 wr) (fun _ s20 _=>us.length - (intOf s20).toNat)
   case atStart=>exact⟨0,root.at_,Wr _,rfl,rfl,VZ rfl,Below.refl _ _⟩
   case round=>
    obtain⟨k,f,hk,rfl,rfl,hu,hx⟩:=hrel;have ia:Bel w.heap.size w wr:=(((Bel.refl w).alloc _).call cJ).call hx;obtain⟨VH,Bl⟩:=bk hx;have VI:=b8 hx;have lr:w.heap.size < wr.heap.size:=by omega
    by_cases hlt:k < us.length
    ·have ej:(k:Int) < (us.length:Int):=by omega
     have Nb:us.drop k=us[k]::us.drop (k+1):=Xv hlt;rw[Nb]at hu;clear Nb;obtain⟨b,off,cs,rfl,-,bc,hR,mK⟩:=h.elem k hlt;replace mK:=gR (ai (ai (am _ _) cJ) hx) mK;unfold Pfx.R at hR;subst hR;obtain⟨k0,k1⟩:=qs mK;have lb:=cQ k0;obtain⟨p,hp⟩:∃p,p=us[k]:=⟨_,rfl⟩;rw[←hp]at k0 k1 hu;clear mK hp h;have g7:=iU p.at_ p.len root.at_ root.len;obtain⟨q,hq⟩:∃q,q=mn p.at_ p.len root.at_ root.len:=⟨_,rfl⟩;rw[←hq]at g7;have Nc:gz root root.at_ us=(q&&(decide (f≤p.at_)&&gz root (p.at_+fA p.len) (us.drop (k+1)))):=by rw[hu.out,ri,hq];rfl
     clear hu;cases q
     case false=>
      have mL:r=1:=by rw[hr.out,Nc];rfl
      replace mL:=VZ mL;clear Nc hr hq;replace g7:=VZ g7;go_wp2_with fail
      refine(g7.out _).mono ?_;rintro e w2 ⟨rfl,cN⟩;obtain⟨eQ,ep⟩:=bk cN;have eH:=b8 cN;(try simp only[Wb,ab,Wf,We]at eQ ep eH)
      go_wp2_with fail
      go_ret
      refine⟨bV mL.out.symm,Bel.bel (B:=_) ?_⟩;(repeat(first|with_reducible assumption|with_reducible exact Bel.refl _|with_reducible refine Bel.alloc ?_ _|with_reducible refine Bel.drewN ?_ _|with_reducible refine Bel.drew ?_|(with_reducible refine aD ?_ ?_ _;rotate_left;(first|omega|(simp;done)|(simp;omega)))|(with_reducible refine Bel.setCell ?_ (p:=_) ?_ _;rotate_left;(first|(simp;done)|omega|(simp;omega)))|refine Bel.call ?_ (by assumption)|(refine EX.bel ?_ (by assumption) ?_;rotate_left;(first|omega|(simp;omega)))))
     case true=>
      have Ge:=Ce hq.symm;obtain⟨g1,g2,g3,g4,-⟩:=dr Ge;obtain⟨z1,z2⟩:=fQ g1;have ck:=zI p.at_ p.len;rw[rh Ge]at ck;have ed:IntKind.i64.wrap (p.at_+fA p.len)=p.at_+fA p.len:=IntWalk.i64_in _ (by omega);replace g7:=VZ g7;replace ck:=VZ ck;clear hq Ge;by_cases hf:f≤p.at_
      ·have SK:gz root root.at_ us=gz root (p.at_+fA p.len) (us.drop (k+1)):=by rw[Nc];simp[hf]
       clear Nc;replace SK:=VZ SK;go_wp2_with fail
       refine(g7.out _).mono ?_;rintro e w2 ⟨rfl,cN⟩;obtain⟨eQ,ep⟩:=bk cN;have eH:=b8 cN;(try simp only[Wb,ab,Wf,We]at eQ ep eH)
       have l2:w.heap.size < w2.heap.size:=by omega
       have l3:wr.heap.size < w2.heap.size:=by omega
       go_wp2_with fail
       refine dt (by kernel_rfl) (by kernel_rfl) (fun _ _ d _ _ h=>by cases d<;>exact h) ?_;repeat(first|((first|refine bH rfl rfl rfl (by with_reducible rfl) ?_|refine bI rfl rfl rfl (by with_reducible rfl) ?_|refine bJ rfl rfl rfl (by with_reducible rfl) ?_);simp only[Act.put,V8,Wi,Wl])|(apply cG;(first|exact b6 rfl|exact cu rfl rfl rfl (by with_reducible rfl));intro wq ek R hR;((have gF:=(bk ek).1;(try simp only[Wb,ab,Wf,We]at gF));go_simp;first|exact hR|((go_at_call 203;exact rf (ck.out _) hR)));simp only[Act.put,V8,Wi,Wl]))
       refine fR ?_;intro w3 lF;obtain⟨vq,Be⟩:=bk lF;have C7:=b8 lF;(try simp only[Wb,ab,Wf,We]at vq Be C7)
       go_wp2_with fail
       go_roundw
       case rel=>exact⟨k+1,_,by omega,by go_num,rfl,SK,ai hx (ai (ai (am _ _) cN) lF)⟩
       case measure=>simp[intOf];omega
      ·have mL:r=1:=by rw[hr.out,Nc];simp[hf]
       replace mL:=VZ mL;have hf':p.at_ < f:=by omega
       clear Nc hr hf;go_wp2_with fail
       refine(g7.out _).mono ?_;rintro e w2 ⟨rfl,cN⟩;obtain⟨eQ,ep⟩:=bk cN;have eH:=b8 cN;(try simp only[Wb,ab,Wf,We]at eQ ep eH)
       have l2:w.heap.size < w2.heap.size:=by omega
       have l3:wr.heap.size < w2.heap.size:=by omega
       go_wp2_with fail
       go_ret
       refine⟨bV mL.out.symm,Bel.bel (B:=_) ?_⟩;(repeat(first|with_reducible assumption|with_reducible exact Bel.refl _|with_reducible refine Bel.alloc ?_ _|with_reducible refine Bel.drewN ?_ _|with_reducible refine Bel.drew ?_|(with_reducible refine aD ?_ ?_ _;rotate_left;(first|omega|(simp;done)|(simp;omega)))|(with_reducible refine Bel.setCell ?_ (p:=_) ?_ _;rotate_left;(first|(simp;done)|omega|(simp;omega)))|refine Bel.call ?_ (by assumption)|(refine EX.bel ?_ (by assumption) ?_;rotate_left;(first|omega|(simp;omega)))))
    ·have ej:¬(k:Int) < (us.length:Int):=by omega
     obtain rfl:k=us.length:=by omega
     have mL:r=0:=by rw[hr.out,hu.out,Yi];rfl
     replace mL:=VZ mL;clear hr hu;go_wp2_with fail
     go_ret
     exact⟨bV mL.out.symm,ia.bel⟩
  ·have hr:iz root us=1:=by unfold iz;rw[if_neg jK,if_neg hc]
   rw[hr];obtain⟨c,gF⟩:∃c,c=chk root.at_ root.len:=⟨_,rfl⟩;rw[←gF]at bn;have bq:(c !=0)=true:=by rw[gF];simpa using hc
   clear hr jK hc gF;replace bn:=VZ bn;go_enter func115,ntmps115
   go_wp2_with fail
   refine(bn.out _).mono ?_;rintro e w1 ⟨rfl,cJ⟩;obtain⟨cM,dk⟩:=bk cJ;have dB:=b8 cJ;(try simp only[Wb,ab,Wf,We]at cM dk dB)
   go_wp2_with fail
   go_ret
   refine⟨rfl,Bel.bel (B:=_) ?_⟩;(repeat(first|with_reducible assumption|with_reducible exact Bel.refl _|with_reducible refine Bel.alloc ?_ _|with_reducible refine Bel.drewN ?_ _|with_reducible refine Bel.drew ?_|(with_reducible refine aD ?_ ?_ _;rotate_left;(first|omega|(simp;done)|(simp;omega)))|(with_reducible refine Bel.setCell ?_ (p:=_) ?_ _;rotate_left;(first|(simp;done)|omega|(simp;omega)))|refine Bel.call ?_ (by assumption)|(refine EX.bel ?_ (by assumption) ?_;rotate_left;(first|omega|(simp;omega)))))
end
section
open Go.Proofs Go.Shelf
attribute [local go_sem] Oper.semAt_some
def xA (root:Pfx)(us:List Pfx):List Pfx:=d5 us (16 - root.len).toNat root
@[go_sem] def Pfx.zero:Pfx:=⟨0,0⟩
def kn (root:Pfx)(us:List Pfx)(size:Int):Pfx × Bool × Int:=
 if iz root us=0 then
  (if size < root.len∨16 < size then (Pfx.zero,false,3)else match (xA root us).find? (fun q=>decide (q.len≤size))with|some q=>(⟨q.at_,size⟩,true,0)|none=>(Pfx.zero,false,0))
 else (Pfx.zero,false,iz root us)
def ng (W:World)(b:Nat)(cs:Array Value)(t:TypeId):Prop:=W.heap[b]? =some (.cells cs t (0,0))
theorem dJ {A B:World}{row:Option Nat}{b:Nat}{cs:Array Value}{t:TypeId}(h:ng A b cs t)(hg:A.grownBy B row)(hr:∀r,row=some r→∃o:Obj,A.heap[r]? =some o∧o.isCells=false):ng B b cs t:=
 (hg.block b (mw h) (fun e=>by obtain⟨o,ho,hc⟩:=hr b e.symm;rw[show A.heap[b]? =_ from h]at ho;cases ho;cases hc)).trans h
theorem iA {A B:World}{b:Nat}{cs:Array Value}{t:TypeId}(h:ng A b cs t)(hx:cW A B):ng B b cs t:=pQ hx h
theorem cC {W:World}{b o:Nat}{cs:Array Value}{t:TypeId}{v:Value}(h:ng W b cs t)(hv:cs[o]? =some v):W.cell? ⟨b,o,none⟩=some v:=aC h hv
theorem ko {W:World}{b o:Nat}{cs:Array Value}{t:TypeId}(h:ng W b cs t):W.frozen? ⟨b,o,none⟩=false:=eV h
theorem jC {W:World}{b o:Nat}{cs:Array Value}{t:TypeId}(h:ng W b cs t)(v:Value):ng (W.setCell ⟨b,o,none⟩ v) b (cs.setIfInBounds o v) t:=jP h v
theorem cE {W:World}{b c o:Nat}{cs:Array Value}{t:TypeId}(h:ng W b cs t)(bq:c≠b)(v:Value):ng (W.setCell ⟨c,o,none⟩ v) b cs t:=(dh v bq).trans h
theorem Sl.inW {α:Type}{A:kJ}{w:World}{k:Nat}{R:List Value→α→Prop}{ao:Option Addr}{cap:Nat}{l:List α}(h:Sl A w (k+1) R ao cap l):Sl (fun b=>b < w.heap.size) w (k+1) R ao cap l:=by
 refine⟨h.cap_le,h.cap_max,fun i hi=>?_⟩;obtain⟨b,off,cs,h1,h2,h3,h4,h5⟩:=h.elem i hi;exact⟨b,off,cs,h1,cQ (h5 0 (by omega)),h3,h4,h5⟩
theorem RX {own:World→Nat→Prop}{G:World→Prop}{A B C:World}(h:KG own G A B)(k:KG own G B C):KG own G A C:=fun g=>⟨(h g).1.trans (k (h g).2).1,(k (h g).2).2⟩
abbrev Ia:World→Nat→Prop:=fun _ _=>False
abbrev RY:World→Prop:=fun _=>True
theorem MJ {W W':World}(h:cW W W'):KG Ia RY W W':=fun _=>⟨KP.of h fun _ h=>h,trivial⟩
theorem FB {w:World}(W:World)(l:Nat)(o o':Obj)(_:w.heap.size≤l)(h:W.heap[l]? =some o)(hc:o.isCells=false)(_:o.isWalk=false):KG Ia RY W (W.putObj l o'):=fun _=>
 ⟨⟨(grownBy_putObj' W l o').size,fun b c t f _ hb=>((grownBy_putObj' W l o').block b (mw hb) (fun e=>by cases e;rw[h]at hb;cases hb;cases hc)).trans hb,fun b _ ho=>ho⟩,trivial⟩
def PY (w w1:World)(size:Int)(pre:List Pfx)(W:World):Prop:=
 ((∀y∈pre,decide (y.len≤size)=false)∧ng W (w.heap.size+1) #[.int .i64 size] 3∧ng W (w.heap.size+2) #[.int .i64 0,.int .i64 0] 23∧ng W (w.heap.size+3) #[.bool false] 4∧ng W (w.heap.size+4) #[.int .i64 0] 37∧w1.heap.size≤W.heap.size)∧Below w.heap.size w W
def PZ (w:World)(size:Int)(c:Code)(pre:List Pfx)(W:World):Prop:=
 (c= .ret∧∃q x,pre=q++[x]∧decide (x.len≤size)=true∧(∀y∈q,decide (y.len≤size)=false)∧ng W (w.heap.size+2) #[.int .i64 x.at_,.int .i64 size] 23∧ng W (w.heap.size+3) #[.bool true] 4∧ng W (w.heap.size+4) #[.int .i64 0] 37)∧Below w.heap.size w W
theorem Ab (w w1:World)(size:Int)(B:Nat)(hB:w.heap.size≤B):OwnFrom B (PY w w1 size):=by
 intro s X Y row h hg hr;obtain⟨⟨h1,h2,h3,h4,h5,h6⟩,h7⟩:=h;have hr':∀r,row=some r→∃o:Obj,X.heap[r]? =some o∧o.isCells=false:=fun r e=>(hr r e).2;exact⟨⟨h1,dJ h2 hg hr',dJ h3 hg hr',dJ h4 hg hr',dJ h5 hg hr',W6 h6 hg.size⟩,h7.grown hg h7.size (fun k e=>W6 hB (hr k e).1)⟩
theorem Ib (w:World)(size:Int)(c:Code)(B:Nat)(hB:w.heap.size≤B):OwnFrom B (PZ w size c):=by
 intro s X Y row h hg hr;obtain⟨⟨h1,q,x,h2,h3,h4,h5,h6,h7⟩,h8⟩:=h;have hr':∀r,row=some r→∃o:Obj,X.heap[r]? =some o∧o.isCells=false:=fun r e=>(hr r e).2;exact⟨⟨h1,q,x,h2,h3,h4,dJ h5 hg hr',dJ h6 hg hr',dJ h7 hg hr'⟩,h8.grown hg h8.size (fun k e=>W6 hB (hr k e).1)⟩
def Ic (w w1:World)(root:Pfx)(uo:Option Addr)(n ucap:Nat)(size:Int)(x:Pfx)(Bx:Nat):Act:=
 {tmps:=#[.agg #[.int .i64 root.at_,.int .i64 root.len,.slice uo n ucap],.int .i64 size,.pointer (some ⟨w.heap.size,0,none⟩),.pointer (some ⟨w.heap.size+1,0,none⟩),.pointer (some ⟨w.heap.size+1+1,0,none⟩),.pointer (some ⟨w.heap.size+1+1+1,0,none⟩),.pointer (some ⟨w.heap.size+1+1+1+1,0,none⟩),.int .i64 0,.pointer (some ⟨Bx,0,none⟩),
  .agg #[.int .i64 root.at_,.int .i64 root.len,.slice uo n ucap],.int .i64 0,.int .i64 0,.bool false,undef,undef,.int .i64 size,.pointer (some ⟨w.heap.size,0,none⟩),.pointer (some ⟨w.heap.size,1,none⟩),.int .i64 root.len,.bool false,.bool false,.int .i64 size,.bool false,.bool false,undef,.pointer (some ⟨w.heap.size,0,none⟩),.agg #[.int .i64 root.at_,.int .i64 root.len],.pointer (some ⟨w.heap.size,2,none⟩),.slice uo n ucap,
  .func (.func 332) #[] #[.pointer (some ⟨w1.heap.size,0,none⟩),.pointer (some ⟨w1.heap.size+1,0,none⟩)],.agg #[.int .i64 x.at_,.int .i64 x.len],undef,undef,undef,undef,undef,undef,undef,undef,undef],defers:=[]}
def P0 (w w1:World)(root:Pfx)(uo:Option Addr)(n ucap:Nat)(size:Int)(x:Pfx)(a':Act)(W:World):Prop:=
 ∃Bx,w1.heap.size≤Bx∧ng W Bx #[.int .i64 x.at_,.int .i64 x.len] 23∧a'=Ic w w1 root uo n ucap size x Bx
theorem Ie {A:kJ}(root:Pfx)(us:List Pfx)(uo:Option Addr)(ucap:Nat)(size:Int)(w:World)(h:Sl A w 2 Pfx.R uo ucap us)(x8:iz root us=0)(h1:root.len≤size)(h2:size≤16):
 Calls prog 238 #[.agg #[.int .i64 root.at_,.int .i64 root.len,.slice uo us.length ucap],.int .i64 size] w fun e w'=>
  e= .returned (.tuple #[(kn root us size).1.v,.bool (kn root us size).2.1,.int .i64 (kn root us size).2.2])∧cW w w':=by
 have bn:=fun W (h:Sl A W 2 Pfx.R uo ucap us)=>fU root us uo ucap W h;rw[x8]at bn;replace bn:=VZ bn;have RD:=fun W=>H8 root uo us.length ucap W;unfold Pfx.v at RD;replace RD:=VZ RD;refine(callsIn_wide (n:=3)).1 ?_;refine callsIn_of_wp_marks func238 rfl trivial ?_ rfl;simp only[ntmps238,Xb,Wc,WM,Ws,YS,X4,X5,Yu,Ye,WO,WH];gi_wp2_with fail
 refine⟨trivial,?_⟩;refine(callsIn_wide.2 (bn.out _ (h.ext (ai (am _ _) (ai (am _ _) (ai (am _ _) (ai (am _ _) (am _ _)))))))).mono ?_;rintro e w1 ⟨rfl,cJ⟩;obtain⟨cM,dk⟩:=bk cJ;have dB:=b8 cJ;(try simp only[Wb,ab,Wf,We]at cM dk dB)
 have l1:w.heap.size < w1.heap.size:=by omega
 have l2:w.heap.size+1 < w1.heap.size:=by omega
 gi_wp2_with fail
 refine⟨trivial,?_⟩;refine(callsIn_wide.2 (RD.out _)).mono ?_;rintro e w2 ⟨rfl,rfl⟩;have b0:ng w1 w.heap.size #[.int .i64 root.at_,.int .i64 root.len,.slice uo us.length ucap] 149:=iA (bv (bv (bv (bv (iO _ (by simp)))))) cJ;have b1:ng w1 (w.heap.size+1) #[.int .i64 size] 3:=iA (bv (bv (bv (iO _ (by simp))))) cJ;have b2:ng w1 (w.heap.size+2) #[.int .i64 0,.int .i64 0] 23:=iA (bv (bv (iO _ (by simp)))) cJ;have b3:ng w1 (w.heap.size+3) #[.bool false] 4:=iA (bv (iO _ (by simp))) cJ;have b4:ng w1 (w.heap.size+4) #[.int .i64 0] 37:=iA (iO _ (by simp)) cJ;have jq:decide (size < root.len)=false:=by simp;omega
 have jN:decide (16 < size)=false:=by simp;omega
 gi_wp2_with fail
 have qF:cW w1 ((w1.alloc (.cells #[.int .i64 root.at_,.int .i64 root.len] 23)).alloc (.cells #[.slice uo us.length ucap] 147)):=ai (am _ _) (am _ _);have MQ:cW w w1:=ai (ai (am _ _) (ai (am _ _) (ai (am _ _) (ai (am _ _) (am _ _))))) cJ;have bc:16 - root.len=(((16 - root.len).toNat:Nat):Int):=by omega
 have QR:root.right=true:=by
  unfold iz at x8;split at x8<;>(try split at x8)<;>simp_all[Pfx.right,bQ]
 refine wpIn_rangeFunc_ownH rfl (by omega) (gf:=332) (lb:=#[.pointer (some ⟨w1.heap.size,0,none⟩),.pointer (some ⟨w1.heap.size+1,0,none⟩)]) rfl trivial (enters_of func332 (by kernel_rfl) rfl)
  (Cd Ia RY 2 w1.heap.size w1.heap.size (w1.heap.size+1) us uo ucap root _ bc QR _ trivial (fun _ _ _ h=>h.elim) (fun _ _ _ _ _ h=>h) (fun _ _ _ _=>trivial) (by simp) (by simp) (by simp) ((((h.ext MQ).inW).ext qF))) RX (FB (w:=((w1.alloc (.cells #[.int .i64 root.at_,.int .i64 root.len] 23)).alloc (.cells #[.slice uo us.length ucap] 147)))) (Below.refl _ _) (fun _=>rfl)
  (PY w w1 size) (PZ w size) (Ab w w1 size _ (by simp;omega)) (fun c=>Ib w size c _ (by simp;omega))
  ⟨⟨by simp,iA b1 qF,iA b2 qF,iA b3 qF,iA b4 qF,qF.size⟩,(ai MQ qF).mono (Wa _)⟩
  (P0 w w1 root uo us.length ucap size) (fun x a'=>by
   intro s X Y row h hg hr;obtain⟨Bx,h1,h2,h3⟩:=h;exact⟨Bx,h1,dJ h2 hg (fun r e=>(hr r e).2),h3⟩) ?assign ?body ?done ?stop
 case assign=>
  intro l pre x W K hi hK;have hi':=hi;obtain⟨⟨-,-,-,-,-,ck⟩,hB⟩:=hi';unfold Pfx.v;gi_wp2
  refine hK _ _ ((KeepsOthers.alloc _ _).from _) (MJ (am _ _)) (Ab w w1 size w.heap.size (Wa _) _ _ _ none hi (World.grownBy_alloc _ _ _) (fun r e=>by cases e)) ⟨W.heap.size,ck,bF _ _,rfl⟩
 case body=>
  rintro l pre x a' W hl ⟨r,hr⟩ hi ⟨Bx,VJ,bX,rfl⟩ hlt;obtain⟨⟨hp,c1,c2,c3,c4,ck⟩,hB⟩:=hi;have x0:=cC (o:=0) bX rfl;have x1:=cC (o:=1) bX rfl;have s0:=cC (o:=0) c1 rfl;have p0:=cC (o:=0) c2 rfl;have p1:=cC (o:=1) c2 rfl;have q0:=cC (o:=0) c3 rfl;have r0:=cC (o:=0) c4 rfl;have f2:∀o,W.frozen? ⟨w.heap.size+2,o,none⟩=false:=fun o=>ko c2;have f3:∀o,W.frozen? ⟨w.heap.size+3,o,none⟩=false:=fun o=>ko c3;have f4:∀o,W.frozen? ⟨w.heap.size+4,o,none⟩=false:=fun o=>ko c4;unfold Ic;cases hx:decide (x.len≤size)
  ·have Hx:=VZ hx;gi_wp2
   exact⟨(KeepsOthers.refl _).from _,MJ (Below.refl _ _),⟨⟨fun y hy=>(WJ.1 hy).elim (hp y) (fun e=>by simp at e;rw[e];exact Hx.out),c1,c2,c3,c4,ck⟩,hB⟩⟩
  ·have Hx:=VZ hx;gi_wp2
   refine⟨((((KeepsOthers.setCell _ _ _).trans (KeepsOthers.setCell _ _ _)).trans (KeepsOthers.setCell _ _ _)).trans (KeepsOthers.setCell _ _ _)).from _,⟨⟨rfl,pre,x,rfl,Hx.out,hp,?_,?_,?_⟩,?_⟩⟩
   ·exact cE (cE (jC (jC c2 _) _) (by omega) _) (by omega) _
   ·exact cE (jC (cE (cE c3 (by omega) _) (by omega) _) _) (by omega) _
   ·exact jC (cE (cE (cE c4 (by omega) _) (by omega) _) (by omega) _) _
   ·exact(((hB.setCell (p:=⟨w.heap.size+2,0,none⟩) (by simp) _).setCell (p:=⟨w.heap.size+2,1,none⟩) (by simp) _).setCell (p:=⟨w.heap.size+3,0,none⟩) (by simp) _).setCell (p:=⟨w.heap.size+4,0,none⟩) (by simp) _
 case done=>
  rintro D ys W hD rfl ⟨⟨bq,c1,c2,c3,c4,ck⟩,hB⟩ hK;have p0:=cC (o:=0) c2 rfl;have p1:=cC (o:=1) c2 rfl;have q0:=cC (o:=0) c3 rfl;have r0:=cC (o:=0) c4 rfl;have f2:∀o,W.frozen? ⟨w.heap.size+2,o,none⟩=false:=fun o=>ko c2;have f3:∀o,W.frozen? ⟨w.heap.size+3,o,none⟩=false:=fun o=>ko c3;have f4:∀o,W.frozen? ⟨w.heap.size+4,o,none⟩=false:=fun o=>ko c4;have qG:kn root us size=(Pfx.zero,false,0):=by
   unfold kn;rw[if_pos x8,if_neg (by omega)];have:(xA root us).find? (fun q=>decide (q.len≤size))=none:=by
    rw[XP];intro q hq;rw[bq q hq];simp
   rw[this]
  replace qG:=VZ qG;replace bq:=VZ bq;have hK':=((((KeepsOthers.setCell W ⟨w.heap.size+2,0,none⟩ (.int .i64 0)).trans (KeepsOthers.setCell _ ⟨w.heap.size+2,1,none⟩ (.int .i64 0))).trans (KeepsOthers.setCell _ ⟨w.heap.size+3,0,none⟩ (.bool false))).trans (KeepsOthers.setCell _ ⟨w.heap.size+4,0,none⟩ (.int .i64 0))).same D _ hK rfl;have e2:=dJ (cE (c:=w.heap.size+4) (o:=0) (cE (c:=w.heap.size+3) (o:=0) (jC (o:=1) (jC (o:=0) c2 (.int .i64 0)) (.int .i64 0)) (by omega) (.bool false)) (by omega) (.int .i64 0)) (grownBy_putObj' _ D (.deferred none)) (fun r e=>by cases e;exact⟨_,hK',rfl⟩);have e3:=dJ (cE (c:=w.heap.size+4) (o:=0) (jC (o:=0) (cE (c:=w.heap.size+2) (o:=1) (cE (c:=w.heap.size+2) (o:=0) c3 (by omega) (.int .i64 0)) (by omega) (.int .i64 0)) (.bool false)) (by omega) (.int .i64 0)) (grownBy_putObj' _ D (.deferred none)) (fun r e=>by cases e;exact⟨_,hK',rfl⟩);have e4:=dJ (jC (o:=0) (cE (c:=w.heap.size+3) (o:=0) (cE (c:=w.heap.size+2) (o:=1) (cE (c:=w.heap.size+2) (o:=0) c4 (by omega) (.int .i64 0)) (by omega) (.int .i64 0)) (by omega) (.bool false)) (.int .i64 0)) (grownBy_putObj' _ D (.deferred none)) (fun r e=>by cases e;exact⟨_,hK',rfl⟩);have SL:=((((hB.setCell (p:=⟨w.heap.size+2,0,none⟩) (by simp) (.int .i64 0)).setCell (p:=⟨w.heap.size+2,1,none⟩) (by simp) (.int .i64 0)).setCell (p:=⟨w.heap.size+3,0,none⟩) (by simp) (.bool false)).setCell (p:=⟨w.heap.size+4,0,none⟩) (by simp) (.int .i64 0)).trans (belowK_b (w:=w) (Wa _) _ D _ (.deferred none) (by simp at hD;omega) hK' rfl rfl);gi_wp2
  refine⟨by simp,.inl ⟨_,_,rfl,run_takeDeferred hK',?_⟩⟩;refine⟨.tuple #[Pfx.zero.v,.bool false,.int .i64 0],?_,by rw[qG.out],SL⟩;have y0:=cC (o:=0) e2 rfl;have y1:=cC (o:=1) e2 rfl;have y2:=cC (o:=0) e3 rfl;have y3:=cC (o:=0) e4 rfl;unfold Pfx.zero Pfx.v;simp[results,f238,go_sem,y0,y1,y2,y3]
 case stop=>
  rintro D c pre W hD OX ⟨⟨rfl,q,x,hq,hx,hn,c2,c3,c4⟩,hB⟩ hK;have qG:kn root us size=(⟨x.at_,size⟩,true,0):=by
   unfold kn;rw[if_pos x8,if_neg (by omega)];have:(xA root us).find? (fun q=>decide (q.len≤size))=some x:=by
    obtain⟨r,hr⟩:=OX;unfold xA;rw[←hr,hq,WE,List.find?_append];have h1:q.find? (fun q=>decide (q.len≤size))=none:=by
     rw[XP];intro y hy;rw[hn y hy];simp
    rw[h1];simp only[WH,List.find?_cons,hx,Option.none_or]
   rw[this]
  replace qG:=VZ qG;replace hn:=VZ hn;replace hq:=VZ hq;replace OX:=VZ OX;have e2:=dJ c2 (grownBy_putObj' _ D (.deferred none)) (fun r e=>by cases e;exact⟨_,hK,rfl⟩);have e3:=dJ c3 (grownBy_putObj' _ D (.deferred none)) (fun r e=>by cases e;exact⟨_,hK,rfl⟩);have e4:=dJ c4 (grownBy_putObj' _ D (.deferred none)) (fun r e=>by cases e;exact⟨_,hK,rfl⟩);have SL:=hB.trans (belowK_b (w:=w) (Wa _) _ D _ (.deferred none) (by simp at hD;omega) hK rfl rfl);gi_wp2
  refine⟨by simp,.inl ⟨_,_,rfl,run_takeDeferred hK,?_⟩⟩;refine⟨.tuple #[Pfx.v ⟨x.at_,size⟩,.bool true,.int .i64 0],?_,by rw[qG.out],SL⟩;have y0:=cC (o:=0) e2 rfl;have y1:=cC (o:=1) e2 rfl;have y2:=cC (o:=0) e3 rfl;have y3:=cC (o:=0) e4 rfl;unfold Pfx.v;simp[results,f238,go_sem,y0,y1,y2,y3]
theorem K6 {A:kJ}(root:Pfx)(us:List Pfx)(uo:Option Addr)(ucap:Nat)(size:Int)(w:World)(h:Sl A w 2 Pfx.R uo ucap us):
 Calls prog 238 #[.agg #[.int .i64 root.at_,.int .i64 root.len,.slice uo us.length ucap],.int .i64 size] w fun e w'=>
  e= .returned (.tuple #[(kn root us size).1.v,.bool (kn root us size).2.1,.int .i64 (kn root us size).2.2])∧cW w w':=by
 by_cases h0:iz root us=0
 ·by_cases h1:root.len≤size∧size≤16
  ·exact Ie root us uo ucap size w h h0 h1.1 h1.2
  ·have hf:kn root us size=(Pfx.zero,false,3):=by unfold kn;rw[if_pos h0,if_pos (by omega)]
   rw[hf];have bn:=fun W (h:Sl A W 2 Pfx.R uo ucap us)=>fU root us uo ucap W h;rw[h0]at bn;replace bn:=VZ bn;clear hf h0;unfold Pfx.zero Pfx.v;by_cases h2:size < root.len
   ·have jq:decide (size < root.len)=true:=by simp[h2]
    clear h1;go_enter func238,ntmps238
    go_wp2_with fail
    refine(bn.out _ (h.ext (ai (am _ _) (ai (am _ _) (ai (am _ _) (ai (am _ _) (am _ _))))))).mono ?_;rintro e w1 ⟨rfl,cJ⟩;obtain⟨cM,dk⟩:=bk cJ;have dB:=b8 cJ;(try simp only[Wb,ab,Wf,We]at cM dk dB)
    go_wp2_with fail
    refine bodyPost_ret ?_ rfl ⟨rfl,Bel.bel (B:=_) ?_⟩
    ·simp[results,results238,go_sem,cM]
    ·(repeat(first|with_reducible assumption|with_reducible exact Bel.refl _|with_reducible refine Bel.alloc ?_ _|with_reducible refine Bel.drewN ?_ _|with_reducible refine Bel.drew ?_|(with_reducible refine aD ?_ ?_ _;rotate_left;(first|omega|(simp;done)|(simp;omega)))|(with_reducible refine Bel.setCell ?_ (p:=_) ?_ _;rotate_left;(first|(simp;done)|omega|(simp;omega)))|refine Bel.call ?_ (by assumption)|(refine EX.bel ?_ (by assumption) ?_;rotate_left;(first|omega|(simp;omega)))))
   ·have jq:decide (size < root.len)=false:=by simp[h2]
    have jN:decide (16 < size)=true:=by simp;omega
    clear h1;go_enter func238,ntmps238
    go_wp2_with fail
    refine(bn.out _ (h.ext (ai (am _ _) (ai (am _ _) (ai (am _ _) (ai (am _ _) (am _ _))))))).mono ?_;rintro e w1 ⟨rfl,cJ⟩;obtain⟨cM,dk⟩:=bk cJ;have dB:=b8 cJ;(try simp only[Wb,ab,Wf,We]at cM dk dB)
    go_wp2_with fail
    refine bodyPost_ret ?_ rfl ⟨rfl,Bel.bel (B:=_) ?_⟩
    ·simp[results,results238,go_sem,cM]
    ·(repeat(first|with_reducible assumption|with_reducible exact Bel.refl _|with_reducible refine Bel.alloc ?_ _|with_reducible refine Bel.drewN ?_ _|with_reducible refine Bel.drew ?_|(with_reducible refine aD ?_ ?_ _;rotate_left;(first|omega|(simp;done)|(simp;omega)))|(with_reducible refine Bel.setCell ?_ (p:=_) ?_ _;rotate_left;(first|(simp;done)|omega|(simp;omega)))|refine Bel.call ?_ (by assumption)|(refine EX.bel ?_ (by assumption) ?_;rotate_left;(first|omega|(simp;omega)))))
 ·have hf:kn root us size=(Pfx.zero,false,iz root us):=by unfold kn;rw[if_neg h0]
  rw[hf];have bn:=fun W (h:Sl A W 2 Pfx.R uo ucap us)=>fU root us uo ucap W h;obtain⟨c,hc⟩:∃c,c=iz root us:=⟨_,rfl⟩;rw[←hc]at bn h0 ⊢;have bq:(c !=0)=true:=by simpa using h0
  replace bn:=VZ bn;clear hf h0 hc;unfold Pfx.zero Pfx.v;go_enter func238,ntmps238
  go_wp2_with fail
  refine(bn.out _ (h.ext (ai (am _ _) (ai (am _ _) (ai (am _ _) (ai (am _ _) (am _ _))))))).mono ?_;rintro e w1 ⟨rfl,cJ⟩;obtain⟨cM,dk⟩:=bk cJ;have dB:=b8 cJ;(try simp only[Wb,ab,Wf,We]at cM dk dB)
  go_wp2_with fail
  refine bodyPost_ret ?_ rfl ⟨rfl,Bel.bel (B:=_) ?_⟩
  ·simp[results,results238,go_sem,cM]
  ·(repeat(first|with_reducible assumption|with_reducible exact Bel.refl _|with_reducible refine Bel.alloc ?_ _|with_reducible refine Bel.drewN ?_ _|with_reducible refine Bel.drew ?_|(with_reducible refine aD ?_ ?_ _;rotate_left;(first|omega|(simp;done)|(simp;omega)))|(with_reducible refine Bel.setCell ?_ (p:=_) ?_ _;rotate_left;(first|(simp;done)|omega|(simp;omega)))|refine Bel.call ?_ (by assumption)|(refine EX.bel ?_ (by assumption) ?_;rotate_left;(first|omega|(simp;omega)))))
end
section
open Go.Proofs
def If (a b:Pfx):Prop:=a.hi≤b.at_
theorem oe (root:Pfx):∀(us:List Pfx) (f:Int),gz root f us=true↔(∀u∈us,kV u root=true)∧(∀u∈us,f≤u.at_)∧us.Pairwise If
 |[],f=>by simp[gz]
 |p::ps,f=>by
  rw[ri,Wd,Wd,decide_eq_true_eq,oe root ps,Xz];constructor
  ·intro⟨h1,h2,h3,h4,h5⟩;have hp:=p.hi_bd (xt.1 h1).1;refine⟨?_,?_,⟨fun u hu=>h4 u hu,h5⟩⟩
   ·intro u hu;rcases WI.1 hu with rfl|hu
    ·exact h1
    ·exact h3 u hu
   ·intro u hu;rcases WI.1 hu with rfl|hu
    ·exact h2
    ·have:=h4 u hu;unfold Pfx.hi at hp;omega
  ·intro⟨h1,h2,h3,h4⟩;exact⟨h1 p (by simp),h2 p (by simp),fun u hu=>h1 u (by simp[hu]),fun u hu=>h3 u hu,h4⟩
structure SpaceOK (root:Pfx)(us:List Pfx):Prop where
 rr:root.right=true
 many:us.length≤32
 ins:∀u∈us,kV u root=true
 apart:us.Pairwise If
theorem xB {root:Pfx}{us:List Pfx}:iz root us=0↔SpaceOK root us:=by
 unfold iz;constructor
 ·intro h;split at h
  ·omega
  ·rename_i h1;split at h
   ·rename_i h2;split at h
    ·rename_i h3;obtain⟨g1,g2,g3⟩:=(oe root us _).1 h3;exact⟨by simp[Pfx.right,bQ,h2],by omega,g1,g3⟩
    ·omega
   ·omega
 ·intro⟨h1,h2,h3,h4⟩;have hc:chk root.at_ root.len=0:=by unfold Pfx.right bQ at h1;simpa using h1
  rw[if_neg (by omega),if_pos hc,if_pos ((oe root us _).2 ⟨h3,fun u hu=>(xt.1 (h3 u hu)).2.2.1,h4⟩)]
end
theorem FC (root:Pfx)(us:List Pfx):ae prog 115 [.agg (KA root us)] (.v (.int .i64 (iz root us))):=by
 refine⟨ce func115 (by kernel_rfl) rfl,fun M w vs hM hG cZ=>?_⟩;obtain⟨v,vs,rfl,h1,cZ⟩:=dZ cZ;rw[kg cZ];obtain⟨uo,cap,rfl,hs⟩:=HD h1;exact(fU root us uo cap w hs).mono fun e w' ⟨he,hx⟩=>⟨_,he,.v _,hx⟩
theorem K7 (root:Pfx)(us:List Pfx)(size:Int):ae prog 238 [.agg (KA root us),.v (.int .i64 size)] (.tup [.agg (aL (kn root us size).1),.v (.bool (kn root us size).2.1),.v (.int .i64 (kn root us size).2.2)]):=by
 refine⟨ce func238 (by kernel_rfl) rfl,fun M w vs hM hG cZ=>?_⟩;obtain⟨v,vs,rfl,h1,cZ⟩:=dZ cZ;obtain⟨v,vs,rfl,h2,cZ⟩:=dZ cZ;rw[kg cZ];obtain⟨uo,cap,rfl,hs⟩:=HD h1;rw[mg h2];exact(K6 root us uo cap size w hs).mono fun e w' ⟨he,hx⟩=>⟨_,he,Dv rfl rfl,hx⟩
def gG:List Int→Bool
 |a::b::l=>decide (a≤b)&&gG (b::l)
 |_=>true
theorem og:∀(l:List Int),gG l=true↔∀j (h:j+1 < l.length),l[j]≤l[j+1]
 |[]=>by simp[gG]
 |[a]=>by simp[gG]
 |a::b::l=>by
  have ih:=og (b::l);simp only[gG,Wd,decide_eq_true_eq,ih];constructor
  ·rintro⟨h1,h2⟩ j hj;cases j with
   |zero=>exact h1
   |succ j=>exact h2 j (by simpa using hj)
  ·intro h;exact⟨h 0 (by simp),fun j hj=>h (j+1) (by simpa using hj)⟩
theorem Cf (l:List Int)(hl:l.length≤1000000000)(h0:l≠[]):ae prog 204 [.sl 1 (l.map fun n=>[PL n])] (.v (.bool (gG l))):=by
 have OH:0 < l.length:=XM.2 h0;have OM:IntKind.i64.wrap ((l.length:Int) - 1)=((l.length - 1:Nat):Int):=by rw[IntKind.wrap_i64];omega
 refine pj func204 ntmps204 results204 ?_;refine aF ?_<;>intros;refine cp ah av (fun m e h=>∃i:Nat,i < l.length∧(∀j (h:j+1 < l.length),i≤j→l[j]≤l[j+1])∧m=i∧e=[(3,.d (.v (.int .i64 i))),(2,.d (.v (.bool false))),(0,.d (.sl 1 (l.map fun n=>[PL n])))]∧h=[]) _ _ _ ⟨l.length - 1,by omega,fun j h1 h2=>by omega,rfl,rfl,rfl⟩ ?_ ?_
 ·exact wf (x:=[]) (hh:=rfl) (he:=⟨rfl,rfl,rfl,trivial⟩)
 ·rintro m e h ⟨i,hi,cr,hm,rfl,rfl⟩ CL kI;by_cases rW:0 < i
  ·obtain⟨x,hx⟩:∃x,l[i]? =some x:=⟨_,VY hi⟩;obtain⟨y,hy⟩:∃y,l[i - 1]? =some y:=⟨_,VY (by omega)⟩;have lK:l[i]=x:=by rw[VY hi]at hx;exact WD.inj hx
   have uF:l[i - 1]=y:=by rw[VY (by omega)]at hy;exact WD.inj hy
   have hgt:decide ((i:Int)>0)=true:=by simpa using rW
   have hw:IntKind.i64.wrap ((i:Int) - 1)=((i - 1:Nat):Int):=by rw[IntKind.wrap_i64];omega
   cases hlt:decide (x < y)with
   |true=>
    have OY:gG l=false:=by
     rw[Yt,ne_eq,og];intro h;have:=h (i - 1) (by omega);simp only[show i - 1+1=i by omega,lK,uF]at this;simp at hlt;omega
    have C6:=H5 x y;rw[hlt]at C6;exact bx;all_goals(rw[OY];exact au.refl _)
   |false=>
    have C6:=H5 x y;rw[hlt]at C6;refine aF ?_<;>intros;refine kI _ _ _ _ _ ?_ ⟨i - 1,by omega,?_,rfl,rfl,rfl⟩ (wf (x:=[]) (hh:=rfl) (he:=⟨rfl,rfl,rfl,trivial⟩))
    ·omega
    ·intro j hj hij;rcases Wv (i - 1) j with h1|h1
     ·exact cr j hj (by omega)
     ·obtain rfl:j=i - 1:=by omega
      simp only[show i - 1+1=i by omega,lK,uF];simp at hlt;omega
  ·have RE:i=0:=by omega
   have QS:gG l=true:=(og l).2 fun j hj=>cr j hj (by omega);have hgt:decide ((i:Int)>0)=false:=by simp;omega
   replace RE:=VZ RE;exact bx;all_goals(rw[QS];exact au.refl _)
def gU (n:Int):Bool:=decide (1≤n)&&decide (n≤65536)
theorem wt (n:Int):ae prog 114 [.v (.int .i64 n)] (.v (.bool (gU n))):=by
 cases e1:decide (n≥1)with
 |true=>
  have h1:decide (1≤n)=true:=e1;refine pj func114 ntmps114 results114 ?_;refine aF ?_<;>intros;all_goals(unfold gU;rw[h1];exact au.refl _)
 |false=>
  have h1:decide (1≤n)=false:=e1;refine pj func114 ntmps114 results114 ?_;refine aF ?_<;>intros;all_goals(unfold gU;rw[h1];exact au.refl _)
def i7 (r:Rul)(len:Int):Bool:=gG [len,r.min,r.usual,r.max,16]&&(decide (0≤r.cool)&&decide (r.cool≤1024))
theorem Cg (r:Rul)(root:Pfx):ae prog 117 [.agg (zi r),.agg (aL root)] (.v (.bool (i7 r root.len))):=by
 have hs:=Cf [root.len,r.min,r.usual,r.max,16] (by simp) (by simp);unfold i7;cases h0:gG [root.len,r.min,r.usual,r.max,16]with
 |false=>
  rw[h0]at hs;refine pj func117 ntmps117 results117 ?_;exact bx;all_goals exact au.refl _
 |true=>
  rw[h0]at hs;show ae _ _ _ (.v (.bool (true&&(decide (r.cool≥0)&&decide (r.cool≤1024)))));cases e1:decide (r.cool≥0)with
  |true=>
   refine pj func117 ntmps117 results117 ?_;exact bx;all_goals exact au.refl _
  |false=>
   refine pj func117 ntmps117 results117 ?_;exact bx;all_goals exact au.refl _
def e9 (p:Pol):List Pfx:=p.leases.map (·.at_)
theorem DS (p:Pol)(hb:p.leases.length≤3518437208882):ae prog 116 [.ept (al p)] (.agg (KA p.root (e9 p))):=by
 refine pj func116 ntmps116 results116 ?_;refine aF ?_<;>intros;refine cp ah av (fun m e h=>∃k g:Nat,k≤p.leases.length∧m=p.leases.length - k∧e=[(16,.d (.v (.int .i64 k))),(15,.d (.v (.int .i64 p.leases.length))),(14,.d (.sl 5 (p.leases.map aW))),(3,.ptr 1 0),(2,.ptr 0 0)]∧
  h=[.box 149 [.d (.v (.int .i64 0)),.d (.v (.int .i64 0)),.d (.v (.slice none 0 0))],.box 149 [.d (.v (.int .i64 p.root.at_)),.d (.v (.int .i64 p.root.len)),.own 2 g],.row 23 2 g (aa (((e9 p).take k).map aL))]) _ _ _ ⟨0,0,Wr _,rfl,rfl,rfl⟩ ?_ ?_
 ·exact(aJ (by simp) 1 _ _ 2 _ _ rfl rfl rfl).trans (wf (x:=[]) (hh:=rfl) (he:=⟨rfl,rfl,rfl,rfl,rfl,trivial⟩))
 ·rintro m e h ⟨k,g,hk,hm,rfl,rfl⟩ CL kI;by_cases hlt:k < p.leases.length
  ·obtain⟨l,hl⟩:∃l,p.leases[k]? =some l:=⟨_,VY hlt⟩;have ej:(k:Int) < (p.leases.length:Int):=by omega
   have ed:=wi k (by omega);have vk:(((e9 p).take k).length+1)*16≤140737488355328:=by rw[V2,e9,Wg];omega
   refine aF ?_<;>intros;have RF:(e9 p).take (k+1)=(e9 p).take k++[l.at_]:=aj (by rw[e9,V7,hl];rfl);refine kI _ _ _ _ _ ?_ ⟨k+1,g+1,hlt,rfl,rfl,rfl⟩ (wf (x:=[.box 96 ((aW l).map .d)]) (hh:=?_) (he:=⟨rfl,rfl,rfl,rfl,rfl,trivial⟩))
   ·omega
   ·rw[RF,V6];rfl
  ·obtain rfl:k=p.leases.length:=by omega
   refine aF ?_<;>intros;rw[Wj (by simp[e9])];all_goals exact au.refl _
theorem i8 (p:Lse):(aW p).length=5:=rfl
theorem i9 (p:Pol):(al p).length=9:=rfl
theorem xC {α:Type}{enc:α→List D}(l:List α)(i j g:Nat)(hi:i < l.length)(hj:j=i+1):
 MSpec prog 242 [.own 0 g,.d (.v (.int .i64 i)),.d (.v (.int .i64 j))] [.row 96 5 g (aa (l.map enc))] (.own 0 (g+1)) [.row 96 5 (g+1) (aa ((l.eraseIdx i).map enc))]:=by
 have h1:((i:Int)==(j:Int))=false:=by simp;omega
 have bq:¬aa (l.map enc)=[]:=by cases l<;>simp[aa]at hi ⊢
 have hle:(i:Int)≤(j:Int):=by omega
 have Jl:(j:Int)≤(l.length:Int):=by omega
 have jO:(l.map enc).length=l.length:=Wg _;have h2:=m1 (aa (l.map enc)) i j l.length (by rw[aA,jO];exact hi) hj (by rw[aA,jO]);rw[aA,jO]at h2;have pM:=VZ hj;clear hj;have Gt:j≤l.length:=by have:=pM.out;omega
 have Mp:min (l.length - j) (l.length - j)=l.length - j:=Nat.min_self _;have hlt:i+(l.length - j)≤l.length:=by have:=pM.out;omega
 have uw:l.length - (i+(l.length - j))=1:=by have:=pM.out;omega
 have kD:i+(l.length - j)+1≤l.length:=by have:=pM.out;omega
 have Mq:¬ap (aa (l.map enc)) i (((aa (l.map enc)).drop j).take (l.length - j))=[]:=by
  intro h;rw[h]at h2;simp at h2;omega
 refine mj func242 ntmps242 results242 ?_;repeat' (first|(with_reducible refine And.intro ?_ ?_)|(with_reducible refine dw (fun _=>?_) (fun _=>?_))|(with_reducible refine aQ (fun _=>?_) (fun _=>?_))|(with_reducible refine bT (by kernel_rfl))|simp -dsimp only[go_sem,seval, *,h1,bq,WZ,V2,Wt]|((with_reducible refine bU ?_);simp -dsimp only[go_sem,seval,h1,bq,WZ,V2,Wt];first|refine aS (by first|assumption|fail) (by first|exact .inl rfl|exact .inr rfl) ?_|refine aR (by assumption) (by repeat(first|exact au.refl _|exact au.nil _|(refine au.tup ?_)|(refine au.agg ?_ rfl)|exact trivial|(refine And.intro ?_ ?_))) (by first|exact .inl rfl|exact .inr rfl) ?_)|omega|exact decide_eq_true (by omega)|exact au.refl _)
 rw[iL];exact mi (by rw[jO];exact hi) pM.out jO.symm
theorem fB {α:Type}(enc:α→List D)(l:List α)(hl:l.length≤1000000000):
 MSpec prog 89 [.d (.sl 5 (l.map enc))] [] (.own 0 1) [.row 96 5 1 (aa (l.map enc))]:=by
 cases l with
 |nil=>
  refine o5 (pl:=[]) (ql:=[]) fun ao cap=>?_;cases ao with
  |none=>
   simp only[WO];refine mj func89 ntmps89 results89 ?_;repeat' (first|(with_reducible refine And.intro ?_ ?_)|(with_reducible refine dw (fun _=>?_) (fun _=>?_))|(with_reducible refine aQ (fun _=>?_) (fun _=>?_))|(with_reducible refine bT (by kernel_rfl))|simp -dsimp only[go_sem,seval, *,XQ,Wk]|((with_reducible refine bU ?_);simp -dsimp only[go_sem,seval,XQ,Wk];first|refine aS (by first|assumption|fail) (by first|exact .inl rfl|exact .inr rfl) ?_|refine aR (by assumption) (by repeat(first|exact au.refl _|exact au.nil _|(refine au.tup ?_)|(refine au.agg ?_ rfl)|exact trivial|(refine And.intro ?_ ?_))) (by first|exact .inl rfl|exact .inr rfl) ?_)|omega|exact decide_eq_true (by omega)|exact au.refl _)
   refine fN (h:=[]) (Wa _) 96 5 ?_;exact(ef 0 0 96 5 [] rfl (aP rfl rfl))
  |some a=>
   simp only[WO];refine mj func89 ntmps89 results89 ?_;repeat' (first|(with_reducible refine And.intro ?_ ?_)|(with_reducible refine dw (fun _=>?_) (fun _=>?_))|(with_reducible refine aQ (fun _=>?_) (fun _=>?_))|(with_reducible refine bT (by kernel_rfl))|simp -dsimp only[go_sem,seval, *,W7,Wk]|((with_reducible refine bU ?_);simp -dsimp only[go_sem,seval,W7,Wk];first|refine aS (by first|assumption|fail) (by first|exact .inl rfl|exact .inr rfl) ?_|refine aR (by assumption) (by repeat(first|exact au.refl _|exact au.nil _|(refine au.tup ?_)|(refine au.agg ?_ rfl)|exact trivial|(refine And.intro ?_ ?_))) (by first|exact .inl rfl|exact .inr rfl) ?_)|omega|exact decide_eq_true (by omega)|exact au.refl _)
   exact aP rfl rfl
 |cons x l=>
  simp only[Wc]at hl;refine mj func89 ntmps89 results89 ?_;repeat' (first|(with_reducible refine And.intro ?_ ?_)|(with_reducible refine dw (fun _=>?_) (fun _=>?_))|(with_reducible refine aQ (fun _=>?_) (fun _=>?_))|(with_reducible refine bT (by kernel_rfl))|simp -dsimp only[go_sem,seval, *,W7,Wk]|((with_reducible refine bU ?_);simp -dsimp only[go_sem,seval,W7,Wk];first|refine aS (by first|assumption|fail) (by first|exact .inl rfl|exact .inr rfl) ?_|refine aR (by assumption) (by repeat(first|exact au.refl _|exact au.nil _|(refine au.tup ?_)|(refine au.agg ?_ rfl)|exact trivial|(refine And.intro ?_ ?_))) (by first|exact .inl rfl|exact .inr rfl) ?_)|omega|exact decide_eq_true (by omega)|exact au.refl _)
  all_goals first|omega|exact aP rfl rfl
theorem Ch (p:Lse→Bool)(l:List Lse)(k g fn:Nat)(caps:List PV)(h:List Chunk)(hk:aw h k= .row 96 5 g (aa (l.map aW)))(El:af h.length caps=true)(hbh:ay h.length h=true)(hl:l.length≤1000000000)
 (h5:∃ds,bW (aO (aw h) 5) caps=some ds∧∀x∈l,ae prog fn (.agg (aW x)::ds) (.v (.bool (p x))))
 (h6:∀(m:List Lse) (b:Chunk),∃ds,bW (vw (aw (bg h k (.row 96 5 g (aa (m.map aW)))++[b]))) caps=some ds∧∀x∈l,ae prog fn (.agg (aW x)::ds) (.v (.bool (p x)))):
 MSpec prog 169 [.own k g,.clo fn caps] h (.own k (g+1)) (bg h k (.row 96 5 (g+1) (aa ((l.filter fun x=>!p x).map aW)))):=by
 have hlt:k < h.length:=mY (by rw[hk];simp);obtain⟨ds,A4,yf⟩:=h5;have lP:=kX i8 p l fn ds hl yf;have hle:h.length≤(bg h k (.row 96 5 (g+1) (aa ((l.filter fun x=>!p x).map aW)))).length:=by rw[o0 hlt];exact Wa _
 have CW:af h.length [.own k g,.clo fn caps]=true:=by simp only[af,ag,hlt,El,decide_true,WW]
 unfold cY at lP;cases hf:l.findIdx? p with
 |none=>
  rw[hf]at lP;replace hf:=VZ hf;refine zt ah av func169 rfl ntmps169 results169 (by kernel_rfl) hle CW hbh ?_;repeat' (first|(with_reducible refine And.intro ?_ ?_)|(with_reducible refine dw (fun _=>?_) (fun _=>?_))|(with_reducible refine aQ (fun _=>?_) (fun _=>?_))|(with_reducible refine bT (by kernel_rfl))|simp -dsimp only[go_sem,seval, *,hk,A4]|((with_reducible refine bU ?_);simp -dsimp only[go_sem,seval,hk,A4];first|refine aS (by first|assumption|exact lP) (by first|exact .inl rfl|exact .inr rfl) ?_|refine aR (by assumption) (by repeat(first|exact au.refl _|exact au.nil _|(refine au.tup ?_)|(refine au.agg ?_ rfl)|exact trivial|(refine And.intro ?_ ?_))) (by first|exact .inl rfl|exact .inr rfl) ?_)|omega|exact decide_eq_true (by omega)|exact au.refl _)
  have he:(l.filter fun x=>!p x)=l:=List.filter_eq_self.2 fun x hx=>by
   have:=Xm.1 hf.out x hx;simp[this]
  rw[he];exact ef k g _ _ _ hk (aP rfl rfl)
 |some i0=>
  rw[hf]at lP;have jv:=vZ hf;replace hf:=VZ hf;have JE:((i0:Int)== -1)=false:=by rw[beq_eq_false_iff_ne];omega
  have cJ:=wi i0 (by omega);obtain⟨ga,gb,gc,gd,ge,gf,gg,gi⟩:=NI hlt;refine zt ah av func169 rfl ntmps169 results169 (by kernel_rfl) hle CW hbh ?_;have jv:=VZ jv;repeat' (first|(with_reducible refine And.intro ?_ ?_)|(with_reducible refine dw (fun _=>?_) (fun _=>?_))|(with_reducible refine aQ (fun _=>?_) (fun _=>?_))|(with_reducible refine bT (by kernel_rfl))|simp -dsimp only[go_sem,seval, *,hk,A4,JE,cJ]|((with_reducible refine bU ?_);simp -dsimp only[go_sem,seval,hk,A4,JE,cJ];first|refine aS (by first|assumption|exact lP) (by first|exact .inl rfl|exact .inr rfl) ?_|refine aR (by assumption) (by repeat(first|exact au.refl _|exact au.nil _|(refine au.tup ?_)|(refine au.agg ?_ rfl)|exact trivial|(refine And.intro ?_ ?_))) (by first|exact .inl rfl|exact .inr rfl) ?_)|omega|exact decide_eq_true (by omega)|exact au.refl _)
  refine cp ah av (fun m e h'=>∃j,j≤l.length∧i0 < j∧m=l.length - j∧e=[(6,.d (.v (.int .i64 j))),(5,.d (.v (.int .i64 (bL p l j).length))),(4,.d (.v (.slice none 0 0))),(1,.clo fn caps),(0,.own k g)]∧h'=bg h k (.row 96 5 g (aa ((eX p l j).map aW)))) (l.length - (i0+1)) _ _ ⟨i0+1,jv.out.1,by omega,rfl,rfl,rfl⟩ ?_ ?_
  ·rw[jv.out.2.1,jv.out.2.2];refine db [] (by rw[gb];exact Wa _) (by rw[qf h k _ hk hlt,WV]) ⟨rfl,rfl,rfl,rfl,rfl,trivial⟩ (by rw[gb];simp only[dn,ag,hlt,El,decide_true,WW]) (by rw[gb];exact eB _ _ _ _ hbh (by simp only[aH,an]) hlt)
  ·rintro m e h' ⟨j,hj,hij,rfl,rfl,rfl⟩ C hC;have Gd:=r5 p l j;have ik:=DA p l j;by_cases OO:j < l.length
   ·obtain⟨x,hx⟩:∃x,l[j]? =some x:=⟨_,VY OO⟩;have A5:(eX p l j)[j]? =some x:=by rw[DB p l j j Gd.1];exact hx
    obtain⟨y,uy⟩:∃y,(eX p l j)[(bL p l j).length]? =some y:=⟨_,VY (by omega)⟩;have oF:(j:Int) < (l.length:Int):=by omega
    have cN:=wi j (by omega);have lF:IntKind.i64.wrap (((bL p l j).length:Int)+1)=(((bL p l j).length+1:Nat):Int):=by rw[IntKind.wrap_i64];omega
    have kD:(bL p l j).length < l.length:=by omega
    obtain⟨ds2,Ml,SM⟩:=h6 (eX p l j) (.box 96 ((aW x).map .d));have gI:=SM x (V0 hx);have hx:=VZ hx;have bu:=cB aW (eX p l j) (bL p l j).length x;simp only[aW,V1,V5]at Ml gI bu;repeat' (first|(with_reducible refine And.intro ?_ ?_)|(with_reducible refine dw (fun _=>?_) (fun _=>?_))|(with_reducible refine aQ (fun _=>?_) (fun _=>?_))|(with_reducible refine bT (by kernel_rfl))|simp -dsimp only[go_sem,seval, *,aW,A5,uy,oF,cN,lF,Ml,ik,gb]|((with_reducible refine bU ?_);simp -dsimp only[go_sem,seval,aW,A5,uy,oF,cN,lF,Ml,ik,gb];first|refine aS (by first|assumption|exact gI) (by first|exact .inl rfl|exact .inr rfl) ?_|refine aR (by assumption) (by repeat(first|exact au.refl _|exact au.nil _|(refine au.tup ?_)|(refine au.agg ?_ rfl)|exact trivial|(refine And.intro ?_ ?_))) (by first|exact .inl rfl|exact .inr rfl) ?_)|omega|exact decide_eq_true (by omega)|exact au.refl _)
    ·rename_i hp;obtain⟨q1,q2⟩:=MC hx.out hp;refine hC _ _ _ _ _ (by omega) ⟨j+1,by omega,by omega,rfl,rfl,rfl⟩ ?_;rw[q1,q2];exact db _ (by rw[gb];exact Wa _) rfl ⟨rfl,rfl,rfl,rfl,rfl,trivial⟩ (by rw[gb];simp only[dn,ag,hlt,El,decide_true,WW,Xa]) (by rw[gb];exact eB _ _ _ _ hbh (by simp only[aH,an]) hlt)
    ·rename_i hp;obtain⟨q1,q2⟩:=MD hx.out hp;refine hC _ _ _ _ _ (by omega) ⟨j+1,by omega,by omega,rfl,rfl,rfl⟩ ?_;rw[q1,q2];exact db _ (by rw[gb];exact Wa _) rfl ⟨rfl,rfl,rfl,rfl,rfl,trivial⟩ (by rw[gb];simp only[dn,ag,hlt,El,decide_true,WW,Xa]) (by rw[gb];exact eB _ _ _ _ hbh (by simp only[aH,an]) hlt)
   ·obtain rfl:j=l.length:=by omega
    have hm0:eX p l l.length≠[]:=fun e=>by rw[e]at ik;simp at ik;omega
    have St:¬aa ((eX p l l.length).map aW)=[]:=by simpa[aa]using hm0
    have Eh:∀z:List PV,(ap (aa ((eX p l l.length).map aW)) (bL p l l.length).length (Wy (l.length - (bL p l l.length).length) z)).length=l.length:=fun z=>by
     rw[aM (by simp[aA,ik];omega)];simp[aA,ik]
    have Ef:∀z:List PV,¬ap (aa ((eX p l l.length).map aW)) (bL p l l.length).length (Wy (l.length - (bL p l l.length).length) z)=[]:=fun z e=>by
     have:=Eh z;rw[e]at this;simp at this;omega
    repeat' (first|(with_reducible refine And.intro ?_ ?_)|(with_reducible refine dw (fun _=>?_) (fun _=>?_))|(with_reducible refine aQ (fun _=>?_) (fun _=>?_))|(with_reducible refine bT (by kernel_rfl))|simp -dsimp only[go_sem,seval, *,aW,Xp,ik,gb]|((with_reducible refine bU ?_);simp -dsimp only[go_sem,seval,aW,Xp,ik,gb];first|refine aS (by first|assumption|fail) (by first|exact .inl rfl|exact .inr rfl) ?_|refine aR (by assumption) (by repeat(first|exact au.refl _|exact au.nil _|(refine au.tup ?_)|(refine au.agg ?_ rfl)|exact trivial|(refine And.intro ?_ ?_))) (by first|exact .inl rfl|exact .inr rfl) ?_)|omega|exact decide_eq_true (by omega)|exact au.refl _)
    have cv:=v5 p l;rw[←cv,XS];exact v6 hlt (by simp[ik];omega) (by simpa using hm0) (by simp[ik])
theorem wu (p:Pol→Bool)(l:List Pol)(k g fn:Nat)(caps:List PV)(h:List Chunk)(hk:aw h k= .row 83 9 g (aa (l.map al)))(El:af h.length caps=true)(hbh:ay h.length h=true)(hl:l.length≤1000000000)
 (h5:∃ds,bW (aO (aw h) 5) caps=some ds∧∀x∈l,ae prog fn (.agg (al x)::ds) (.v (.bool (p x))))
 (h6:∀(m:List Pol) (b:Chunk),∃ds,bW (vw (aw (bg h k (.row 83 9 g (aa (m.map al)))++[b]))) caps=some ds∧∀x∈l,ae prog fn (.agg (al x)::ds) (.v (.bool (p x)))):
 MSpec prog 167 [.own k g,.clo fn caps] h (.own k (g+1)) (bg h k (.row 83 9 (g+1) (aa ((l.filter fun x=>!p x).map al)))):=by
 have hlt:k < h.length:=mY (by rw[hk];simp);obtain⟨ds,A4,yf⟩:=h5;have lP:=wk i9 p l fn ds hl yf;have hle:h.length≤(bg h k (.row 83 9 (g+1) (aa ((l.filter fun x=>!p x).map al)))).length:=by rw[o0 hlt];exact Wa _
 have CW:af h.length [.own k g,.clo fn caps]=true:=by simp only[af,ag,hlt,El,decide_true,WW]
 unfold cY at lP;cases hf:l.findIdx? p with
 |none=>
  rw[hf]at lP;replace hf:=VZ hf;refine zt ah av func167 rfl ntmps167 results167 (by kernel_rfl) hle CW hbh ?_;repeat' (first|(with_reducible refine And.intro ?_ ?_)|(with_reducible refine dw (fun _=>?_) (fun _=>?_))|(with_reducible refine aQ (fun _=>?_) (fun _=>?_))|(with_reducible refine bT (by kernel_rfl))|simp -dsimp only[go_sem,seval, *,hk,A4]|((with_reducible refine bU ?_);simp -dsimp only[go_sem,seval,hk,A4];first|refine aS (by first|assumption|exact lP) (by first|exact .inl rfl|exact .inr rfl) ?_|refine aR (by assumption) (by repeat(first|exact au.refl _|exact au.nil _|(refine au.tup ?_)|(refine au.agg ?_ rfl)|exact trivial|(refine And.intro ?_ ?_))) (by first|exact .inl rfl|exact .inr rfl) ?_)|omega|exact decide_eq_true (by omega)|exact au.refl _)
  have he:(l.filter fun x=>!p x)=l:=List.filter_eq_self.2 fun x hx=>by
   have:=Xm.1 hf.out x hx;simp[this]
  rw[he];exact ef k g _ _ _ hk (aP rfl rfl)
 |some i0=>
  rw[hf]at lP;have jv:=vZ hf;replace hf:=VZ hf;have JE:((i0:Int)== -1)=false:=by rw[beq_eq_false_iff_ne];omega
  have cJ:=wi i0 (by omega);obtain⟨ga,gb,gc,gd,ge,gf,gg,gi⟩:=NI hlt;refine zt ah av func167 rfl ntmps167 results167 (by kernel_rfl) hle CW hbh ?_;have jv:=VZ jv;repeat' (first|(with_reducible refine And.intro ?_ ?_)|(with_reducible refine dw (fun _=>?_) (fun _=>?_))|(with_reducible refine aQ (fun _=>?_) (fun _=>?_))|(with_reducible refine bT (by kernel_rfl))|simp -dsimp only[go_sem,seval, *,hk,A4,JE,cJ]|((with_reducible refine bU ?_);simp -dsimp only[go_sem,seval,hk,A4,JE,cJ];first|refine aS (by first|assumption|exact lP) (by first|exact .inl rfl|exact .inr rfl) ?_|refine aR (by assumption) (by repeat(first|exact au.refl _|exact au.nil _|(refine au.tup ?_)|(refine au.agg ?_ rfl)|exact trivial|(refine And.intro ?_ ?_))) (by first|exact .inl rfl|exact .inr rfl) ?_)|omega|exact decide_eq_true (by omega)|exact au.refl _)
  refine cp ah av (fun m e h'=>∃j,j≤l.length∧i0 < j∧m=l.length - j∧e=[(6,.d (.v (.int .i64 j))),(5,.d (.v (.int .i64 (bL p l j).length))),(4,.d (.v (.slice none 0 0))),(1,.clo fn caps),(0,.own k g)]∧h'=bg h k (.row 83 9 g (aa ((eX p l j).map al)))) (l.length - (i0+1)) _ _ ⟨i0+1,jv.out.1,by omega,rfl,rfl,rfl⟩ ?_ ?_
  ·rw[jv.out.2.1,jv.out.2.2];refine db [] (by rw[gb];exact Wa _) (by rw[qf h k _ hk hlt,WV]) ⟨rfl,rfl,rfl,rfl,rfl,trivial⟩ (by rw[gb];simp only[dn,ag,hlt,El,decide_true,WW]) (by rw[gb];exact eB _ _ _ _ hbh (by simp only[aH,an]) hlt)
  ·rintro m e h' ⟨j,hj,hij,rfl,rfl,rfl⟩ C hC;have Gd:=r5 p l j;have ik:=DA p l j;by_cases OO:j < l.length
   ·obtain⟨x,hx⟩:∃x,l[j]? =some x:=⟨_,VY OO⟩;have A5:(eX p l j)[j]? =some x:=by rw[DB p l j j Gd.1];exact hx
    obtain⟨y,uy⟩:∃y,(eX p l j)[(bL p l j).length]? =some y:=⟨_,VY (by omega)⟩;have oF:(j:Int) < (l.length:Int):=by omega
    have cN:=wi j (by omega);have lF:IntKind.i64.wrap (((bL p l j).length:Int)+1)=(((bL p l j).length+1:Nat):Int):=by rw[IntKind.wrap_i64];omega
    have kD:(bL p l j).length < l.length:=by omega
    obtain⟨ds2,Ml,SM⟩:=h6 (eX p l j) (.box 83 ((al x).map .d));have gI:=SM x (V0 hx);have hx:=VZ hx;have bu:=cB al (eX p l j) (bL p l j).length x;simp only[al,V1,V5]at Ml gI bu;repeat' (first|(with_reducible refine And.intro ?_ ?_)|(with_reducible refine dw (fun _=>?_) (fun _=>?_))|(with_reducible refine aQ (fun _=>?_) (fun _=>?_))|(with_reducible refine bT (by kernel_rfl))|simp -dsimp only[go_sem,seval, *,al,A5,uy,oF,cN,lF,Ml,ik,gb]|((with_reducible refine bU ?_);simp -dsimp only[go_sem,seval,al,A5,uy,oF,cN,lF,Ml,ik,gb];first|refine aS (by first|assumption|exact gI) (by first|exact .inl rfl|exact .inr rfl) ?_|refine aR (by assumption) (by repeat(first|exact au.refl _|exact au.nil _|(refine au.tup ?_)|(refine au.agg ?_ rfl)|exact trivial|(refine And.intro ?_ ?_))) (by first|exact .inl rfl|exact .inr rfl) ?_)|omega|exact decide_eq_true (by omega)|exact au.refl _)
    ·rename_i hp;obtain⟨q1,q2⟩:=MC hx.out hp;refine hC _ _ _ _ _ (by omega) ⟨j+1,by omega,by omega,rfl,rfl,rfl⟩ ?_;rw[q1,q2];exact db _ (by rw[gb];exact Wa _) rfl ⟨rfl,rfl,rfl,rfl,rfl,trivial⟩ (by rw[gb];simp only[dn,ag,hlt,El,decide_true,WW,Xa]) (by rw[gb];exact eB _ _ _ _ hbh (by simp only[aH,an]) hlt)
    ·rename_i hp;obtain⟨q1,q2⟩:=MD hx.out hp;refine hC _ _ _ _ _ (by omega) ⟨j+1,by omega,by omega,rfl,rfl,rfl⟩ ?_;rw[q1,q2];exact db _ (by rw[gb];exact Wa _) rfl ⟨rfl,rfl,rfl,rfl,rfl,trivial⟩ (by rw[gb];simp only[dn,ag,hlt,El,decide_true,WW,Xa]) (by rw[gb];exact eB _ _ _ _ hbh (by simp only[aH,an]) hlt)
   ·obtain rfl:j=l.length:=by omega
    have hm0:eX p l l.length≠[]:=fun e=>by rw[e]at ik;simp at ik;omega
    have St:¬aa ((eX p l l.length).map al)=[]:=by simpa[aa]using hm0
    have Eh:∀z:List PV,(ap (aa ((eX p l l.length).map al)) (bL p l l.length).length (Wy (l.length - (bL p l l.length).length) z)).length=l.length:=fun z=>by
     rw[aM (by simp[aA,ik];omega)];simp[aA,ik]
    have Ef:∀z:List PV,¬ap (aa ((eX p l l.length).map al)) (bL p l l.length).length (Wy (l.length - (bL p l l.length).length) z)=[]:=fun z e=>by
     have:=Eh z;rw[e]at this;simp at this;omega
    repeat' (first|(with_reducible refine And.intro ?_ ?_)|(with_reducible refine dw (fun _=>?_) (fun _=>?_))|(with_reducible refine aQ (fun _=>?_) (fun _=>?_))|(with_reducible refine bT (by kernel_rfl))|simp -dsimp only[go_sem,seval, *,al,Xp,ik,gb]|((with_reducible refine bU ?_);simp -dsimp only[go_sem,seval,al,Xp,ik,gb];first|refine aS (by first|assumption|fail) (by first|exact .inl rfl|exact .inr rfl) ?_|refine aR (by assumption) (by repeat(first|exact au.refl _|exact au.nil _|(refine au.tup ?_)|(refine au.agg ?_ rfl)|exact trivial|(refine And.intro ?_ ?_))) (by first|exact .inl rfl|exact .inr rfl) ?_)|omega|exact decide_eq_true (by omega)|exact au.refl _)
    have cv:=v5 p l;rw[←cv,XS];exact v6 hlt (by simp[ik];omega) (by simpa using hm0) (by simp[ik])
def cH (b:Bok)(id:Int):Option Pol:=b.pools.find? fun p=>p.id==id
def qu (l:List Pol):Prop:=l.Pairwise fun a b=>a.id < b.id
theorem FD {α:Type}{key:α→Int}{t:Int}{l:List α}(hs:l.Pairwise fun a b=>key a < key b):(o9 key t l=true∧∃p,l[kH key t l]? =some p∧l.find? (fun p=>key p==t)=some p∧key p=t)∨(o9 key t l=false∧l.find? (fun p=>key p==t)=none):=by
 have vl:∀q (hq:q < l.length),q < kH key t l→key l[q] < t:=by
  intro q hq hlt;have:=List.not_of_lt_findIdx hlt;simp at this;omega
 cases hx:l[kH key t l]? with
 |none=>
  right;have hb:o9 key t l=false:=by unfold o9;rw[hx]
  refine⟨hb,?_⟩;rw[XP];intro y hy;obtain⟨q,hq,rfl⟩:=W9.1 hy;have bc:l.length≤kH key t l:=by
   rcases Wv (kH key t l) l.length with h|h
   ·rw[VY h]at hx;cases hx
   ·exact h
  have:=vl q hq (by omega);simp;omega
 |some p=>
  obtain⟨hlt,hp⟩:=V3.1 hx;have hge:t≤key p:=by
   have:=List.findIdx_getElem (xs:=l) (p:=fun x=>decide (t≤key x)) (w:=hlt);rw[show l[List.findIdx (fun x=>decide (t≤key x)) l]'hlt=p from hp]at this;simpa using this
  by_cases he:key p=t
  ·left;have hb:o9 key t l=true:=by unfold o9;rw[hx];simpa using he
   refine⟨hb,p,rfl,?_,he⟩;have lG:p∈l:=V0 hx;cases hf:l.find? (fun p=>key p==t)with
   |none=>exact absurd he (by simpa using XP.1 hf p lG)
   |some q=>
    have VK:key q=t:=by simpa using List.find?_some hf
    have AY:=Yp hf;obtain⟨i,hi,rfl⟩:=W9.1 AY;rcases X8 i (kH key t l)with h|h|h
    ·have:=vl i hi h;omega
    ·subst h;rw[VY hlt]at hx;rw[WD.inj hx]
    ·have:=WG.1 hs _ i hlt hi h;rw[hp]at this;omega
  ·right;have hb:o9 key t l=false:=by unfold o9;rw[hx];simpa using he
   refine⟨hb,?_⟩;rw[XP];intro y hy;obtain⟨i,hi,rfl⟩:=W9.1 hy;rcases X8 i (kH key t l)with h|h|h
   ·have:=vl i hi h;simp;omega
   ·subst h;rw[hp];simpa using he
   ·have:=WG.1 hs _ i hlt hi h;rw[hp]at this;simp;omega
theorem Ci (p:Pol)(t:Int):ae prog 234 [.agg (al p),.v (.int .i64 t)] (.v (.int .i64 (dx p.id t))):=by
 refine pj func234 ntmps234 results234 ?_;have z1z:=kj p.id t;exact bx;all_goals exact au.refl _
def my (b:Bok)(id:Int):D:=match cH b id with|some p=> .tup [.ept (al p),.v (.bool true)]|none=> .tup [.v (.pointer none),.v (.bool false)]
theorem kY (b:Bok)(id:Int)(hb:b.pools.length≤1000000000)(hs:qu b.pools):ae prog 156 [.ept (bC b),.v (.int .i64 id)] (my b id):=by
 have Mr:=qr i9 (fun p=>p.id) b.pools id 234 [] hb hs (fun p _=>Ci p id);unfold my cH;rcases FD (t:=id) hs with⟨h1,p,h2,h3,-⟩|⟨h1,h2⟩
 ·rw[h1]at Mr;rw[h3];refine pj func156 ntmps156 results156 ?_;exact bx;all_goals exact au.refl _
 ·rw[h1]at Mr;rw[h2];refine pj func156 ntmps156 results156 ?_;exact bx;all_goals exact au.refl _
theorem wv (p q:Pfx):([p.at_,p.len]==[q.at_,q.len])=decide (p=q):=by
 rw[Xh];cases p;cases q;simp
def iB (b:Bok)(p:Pol)(l:Lse):Bool:=
 if l.kind==1 then gU l.owner&&(l.till==0)
 else if l.kind==2 then (match cH b l.owner with|some q=>(q.up==p.id)&&(decide (q.root=l.at_)&&(l.till==0))|none=>false)
 else if l.kind==3 then (l.owner==0)&&(decide (l.till>b.tick)&&decide (l.till≤b.tick+1024))else false
theorem K8 (b:Bok)(p:Pol)(l:Lse)(hb:b.pools.length≤1000000000)(hs:qu b.pools)(ht:0≤b.tick∧b.tick≤1073741824):ae prog 121 [.ept (bC b),.ept (al p),.agg (aW l)] (.v (.bool (iB b p l))):=by
 unfold iB;cases h1:l.kind==1 with
 |true=>
  rw[if_pos rfl];cases h2:gU l.owner with
  |true=>
   have hi:=wt l.owner;rw[h2]at hi;refine pj func121 ntmps121 results121 ?_;exact bx;all_goals exact au.refl _
  |false=>
   have hi:=wt l.owner;rw[h2]at hi;refine pj func121 ntmps121 results121 ?_;exact bx;all_goals exact au.refl _
 |false=>
  rw[if_neg (by simp)];cases h2:l.kind==2 with
  |true=>
   rw[if_pos rfl];have hf:=kY b l.owner hb hs;unfold my at hf;cases hq:cH b l.owner with
   |none=>
    rw[hq]at hf;refine pj func121 ntmps121 results121 ?_;exact bx;all_goals exact au.refl _
   |some q=>
    rw[hq]at hf;have he:=wv q.root l.at_;cases h3:q.up==p.id<;>cases h4:decide (q.root=l.at_)<;>rw[h4]at he;all_goals
     refine pj func121 ntmps121 results121 ?_;exact bx;all_goals simp only[h3,h4,Xt,YG,Bool.and_false]
     all_goals exact au.refl _
  |false=>
   rw[if_neg (by simp)];have hw:IntKind.i64.wrap (b.tick+1024)=b.tick+1024:=by rw[IntKind.wrap_i64];omega
   cases h3:l.kind==3 with
   |false=>
    rw[if_neg (by simp)];refine pj func121 ntmps121 results121 ?_;exact bx;all_goals exact au.refl _
   |true=>
    rw[if_pos rfl];cases h4:l.owner==0<;>cases h5:decide (l.till>b.tick);all_goals
     refine pj func121 ntmps121 results121 ?_;exact bx;all_goals exact au.refl _
def rL (id:Int)(l:Lse):Bool:=(l.kind==2)&&(l.owner==id)
theorem Ig (l:Lse)(p:Pol):ae prog 205 [.agg (aW l),.ept [.ept (al p)]] (.v (.bool (rL p.id l))):=by
 unfold rL;cases h1:l.kind==2;all_goals
  refine pj func205 ntmps205 results205 ?_;exact bx;all_goals exact au.refl _
def lJ (b:Bok):Nat→Pol→Bool
 |0,p=>p.up==0
 |n+1,p=>(p.up==0)||(match cH b p.up with|some q=>q.leases.any (rL p.id)&&lJ b n q|none=>false)
theorem FE {b:Bok}{p:Pol}(n:Nat)(h:(p.up==0)=true):lJ b n p=true:=by cases n<;>simp[lJ,h]
theorem K9 (b:Bok)(p:Pol)(hb:b.pools.length≤8)(hs:qu b.pools)(hl:∀q∈b.pools,q.leases.length≤1000000000):ae prog 118 [.ept (bC b),.ept (al p)] (.v (.bool (lJ b b.pools.length p))):=by
 refine pj func118 ntmps118 results118 ?_;refine aF ?_<;>intros;refine cp ah av (fun m e h=>∃(k:Nat) (q:Pol),k≤b.pools.length∧lJ b b.pools.length p=lJ b (b.pools.length - k) q∧m=b.pools.length - k∧e=[(12,.d (.v (.int .i64 k))),(11,.d (.v (.int .i64 b.pools.length))),(4,.d (.v (.bool false))),(3,.ptr 0 0),(0,.d (.ept (bC b)))]∧
  h=[.box 194 [.d (.ept (al q))]]) _ _ _ ⟨0,p,Wr _,rfl,rfl,rfl,rfl⟩ (wf) ?_
 rintro m e h ⟨k,q,hk,lL,hm,rfl,rfl⟩ CL kI;by_cases hlt:k < b.pools.length
 ·have ej:(k:Int) < (b.pools.length:Int):=by omega
  have ed:=wi k (by omega);obtain⟨j,hj⟩:∃j,b.pools.length - k=j+1:=⟨b.pools.length - k - 1,by omega⟩;rw[hj]at lL;replace lL:=VZ lL;replace hj:=VZ hj;replace hm:=VZ hm;cases h0:q.up==0 with
  |true=>
   refine aF ?_<;>intros;rw[lL.out,FE _ h0];exact au.refl _
  |false=>
   have hf:=kY b q.up (by omega) hs;unfold my at hf;cases hq:cH b q.up with
   |none=>
    rw[hq]at hf;refine aF ?_<;>intros;rw[lL.out];simp only[lJ,h0,hq,Bool.false_or];exact au.refl _
   |some r=>
    rw[hq]at hf;have hr:r∈b.pools:=Yp hq;have lN:=od i8 (rL q.id) r.leases 205 [.ept [.ept (al q)]] (hl r hr) (fun x _=>Ig x q);cases ha:r.leases.any (rL q.id)with
    |false=>
     rw[ha]at lN;refine aF ?_<;>intros;rw[lL.out];simp only[lJ,h0,hq,ha,Bool.false_or,YG];exact au.refl _
    |true=>
     rw[ha]at lN;refine aF ?_<;>intros;refine kI _ _ _ _ _ ?_ ⟨k+1,r,hlt,?_,rfl,rfl,rfl⟩ (wf)
     ·have:=hm.out;omega
     ·rw[lL.out];simp only[lJ,h0,hq,ha,Bool.false_or,Xt];congr 1;have:=hj.out;omega
 ·obtain rfl:k=b.pools.length:=by omega
  rw[Xy]at lL;replace lL:=VZ lL;refine aF ?_<;>intros;rw[lL.out];exact au.refl _
theorem Ih (b:Bok)(p:Pol)(l:Lse)(hb:b.pools.length≤1000000000)(hs:qu b.pools)(ht:0≤b.tick∧b.tick≤1073741824):ae prog 120 [.agg (aW l),.ept (bC b),.ept [.ept (al p)]] (.v (.bool (!iB b p l))):=by
 have hl:=K8 b p l hb hs ht;refine pj func120 ntmps120 results120 ?_;exact bx
theorem Ii (p:Pol)(q:Pfx):ae prog 123 [.agg (aL q),.ept [.ept (al p)]] (.v (.bool (p.root.meets q))):=by
 have hm:=m4 p.root q;refine pj func123 ntmps123 results123 ?_;exact bx
def fh:Int→List Pol→Bool
 |_,[]=>true
 |last,p::l=>(gU p.id&&(decide (last < p.id)&&((iz p.root (e9 p)==0)&&i7 p.rule p.root.len)))&&fh p.id l
def eF (b:Bok):List Pol→List Pfx→Bool
 |[],_=>true
 |p::l,roots=>(lJ b b.pools.length p&&p.leases.all (iB b p))&&(if p.up==0 then !(roots.any p.root.meets)&&eF b l (roots++[p.root])else eF b l roots)
def bD (b:Bok):Int:=if b.pools.length>8 then 2 else if b.tick < 0∨b.tick>1073741824 then 1 else if fh 0 b.pools&&eF b b.pools []then 0 else 1
theorem kZ:∀(l:List Pol) (last:Int),fh last l=true→qu l∧∀p∈l,last < p.id
 |[],_,_=>⟨List.Pairwise.nil,fun p h=>by simp at h⟩
 |p::l,last,h=>by
  simp only[fh,Wd,decide_eq_true_eq]at h;obtain⟨h1,h2⟩:=kZ l p.id h.2;refine⟨Xz.2 ⟨fun q hq=>h2 q hq,h1⟩,fun q hq=>?_⟩;rcases WI.1 hq with rfl|hq
  ·exact h.1.2.1
  ·have:=h2 q hq;have:=h.1.2.1;omega
theorem mz:∀(l:List Pol) (last:Int),fh last l=true→∀p∈l,gU p.id=true∧iz p.root (e9 p)=0∧i7 p.rule p.root.len=true
 |p::l,last,h,q,hq=>by
  simp only[fh,Wd,decide_eq_true_eq,beq_iff_eq]at h;rcases WI.1 hq with rfl|hq
  ·exact⟨h.1.1,h.1.2.2.1,h.1.2.2.2⟩
  ·exact mz l p.id h.2 q hq
theorem ww {α:Type}{l:List α}{k:Nat}{x:α}(h:l[k]? =some x):l.drop k=x::l.drop (k+1):=by
 obtain⟨hk,rfl⟩:=V3.1 h;exact Xv hk
theorem kq (b:Bok)(hz:∀p∈b.pools,p.leases.length≤3518437208882):ae prog 58 [.agg (bC b)] (.v (.int .i64 (bD b))):=by
 by_cases h8:b.pools.length>8
 ·have U6:decide ((b.pools.length:Int)>8)=true:=by simp;omega
  have hr:bD b=2:=by simp[bD,h8]
  rw[hr];refine pj func58 ntmps58 results58 ?_;exact bx
 ·have U6:decide ((b.pools.length:Int)>8)=false:=by simp;omega
  by_cases jp:b.tick < 0∨b.tick>1073741824
  ·have hr:bD b=1:=by simp[bD,h8,jp]
   rw[hr];rcases jp with h|h
   ·have h1:decide (b.tick < 0)=true:=by simpa using h
    refine pj func58 ntmps58 results58 ?_;exact bx
   ·have h1:decide (b.tick < 0)=false:=by simp;omega
    have h2:decide (b.tick>1073741824)=true:=by simpa using h
    refine pj func58 ntmps58 results58 ?_;exact bx
  ·have h1:decide (b.tick < 0)=false:=by simp;omega
   have h2:decide (b.tick>1073741824)=false:=by simp;omega
   have ht:0≤b.tick∧b.tick≤1073741824:=by omega
   have hr:bD b=if fh 0 b.pools&&eF b b.pools []then 0 else 1:=by simp only[bD,h8,jp,if_false]
   rw[hr];replace hr:=VZ hr;replace ht:=VZ ht;refine pj func58 ntmps58 results58 ?_;refine aF ?_<;>intros;refine cp ah av (fun m e h=>∃(k:Nat) (last:Int),k≤b.pools.length∧fh 0 b.pools=fh last (b.pools.drop k)∧m=b.pools.length - k∧e=[(24,.d (.v (.int .i64 k))),(23,.d (.v (.int .i64 b.pools.length))),(3,.d (.v (.int .i64 last))),(2,.d (.v (.int .i64 0))),(1,.ptr 0 0)]∧
    h=[.box 30 ((bC b).map .d)]) _ _ _ ⟨0,0,Wr _,rfl,rfl,rfl,rfl⟩ (wf) ?_
   rintro m e h ⟨k,last,hk,lL,hm,rfl,rfl⟩ C hC;by_cases hlt:k < b.pools.length
   ·have ej:(k:Int) < (b.pools.length:Int):=by omega
    have ed:=wi k (by omega);obtain⟨p,hp⟩:∃p,b.pools[k]? =some p:=⟨_,VY hlt⟩;have C8:p∈b.pools:=V0 hp;rw[ww hp]at lL;simp only[fh]at lL;have hi:=wt p.id;have jp:=DS p (hz p C8);have T7:=FC p.root (e9 p);have Nd:=Cg p.rule p.root;replace lL:=VZ lL;replace hm:=VZ hm;repeat' (first|(with_reducible refine And.intro ?_ ?_)|(with_reducible refine dw (fun _=>?_) (fun _=>?_))|(with_reducible refine aQ (fun _=>?_) (fun _=>?_))|(with_reducible refine bT (by kernel_rfl))|simp -dsimp only[go_sem,seval, *,bC,al,ej,ed,hp]|((with_reducible refine bU ?_);simp -dsimp only[go_sem,seval,bC,al,ej,ed,hp];first|refine aS (by first|assumption|exact hi|exact jp|exact T7|exact Nd) (by first|exact .inl rfl|exact .inr rfl) ?_|(refine aR (by assumption) ?_ ?_ ?_;(solve|(repeat(first|exact au.refl _|exact au.nil _|(refine au.tup ?_)|(refine au.agg ?_ rfl)|exact trivial|(refine And.intro ?_ ?_))));(solve|exact .inl rfl|exact .inr rfl)))|fail|omega|exact decide_eq_true (by omega)|exact au.refl _)
    case' pos.refine_1.refine_2.refine_2.refine_2.refine_1=>
     rename_i q1 q2 q3 q4;refine hC _ _ _ _ _ ?_ ⟨k+1,p.id,hlt,?_,rfl,rfl,rfl⟩ (wf)
     ·have:=hm.out;omega
     ·rw[lL.out];have e1:decide (last < p.id)=true:=by simpa using q2
      have e2:(iz p.root (e9 p)==0)=true:=by simpa using q3
      rw[q1,e1,e2,q4];rfl
    all_goals
     have hf:fh 0 b.pools=false:=by
      rw[lL.out];clear hC hi jp T7 Nd hz lL hm hr ht;grind
     rw[hf];exact au.refl _
   ·obtain rfl:k=b.pools.length:=by omega
    rw[Yi]at lL;have hf:fh 0 b.pools=true:=by rw[lL];rfl
    obtain⟨Nf,-⟩:=kZ _ _ hf;have pH:=mz _ _ hf;have qK:∀p∈b.pools,p.leases.length≤32:=fun p hp=>by
     have:=(pH p hp).2.1;unfold iz at this;split at this
     ·cases this
     ·rename_i h;simpa[e9]using h
    rw[hf];replace hf:=VZ hf;replace lL:=VZ lL;replace hm:=VZ hm;replace pH:=VZ pH;refine aF ?_<;>intros;refine cp ah av (fun m e h=>∃(k g:Nat) (roots:List Pfx),k≤b.pools.length∧eF b b.pools []=eF b (b.pools.drop k) roots∧roots.length≤k∧m=b.pools.length - k∧e=[(71,.d (.v (.int .i64 k))),(70,.d (.v (.int .i64 b.pools.length))),(6,.own 1 g),(2,.d (.v (.int .i64 0))),(1,.ptr 0 0)]∧
     h=[.box 30 ((bC b).map .d),.row 23 2 g (aa (roots.map aL))]) _ _ _ ⟨0,0,[],Wr _,rfl,Wr _,rfl,rfl,rfl⟩ ((dO (Wr _) 6 23 2 rfl).trans (wf)) ?_
    rintro m e h ⟨k,g,roots,hk,rX,wP,hm,rfl,rfl⟩ C hC;by_cases hlt:k < b.pools.length
    ·have ej:(k:Int) < (b.pools.length:Int):=by omega
     have ed:=wi k (by omega);obtain⟨p,hp⟩:∃p,b.pools[k]? =some p:=⟨_,VY hlt⟩;have C8:p∈b.pools:=V0 hp;rw[ww hp]at rX;simp only[eF]at rX;have nf:=K9 b p (by omega) Nf (fun q hq=>by have:=qK q hq;omega);have gh:=od i8 (fun l=>!iB b p l) p.leases 120 [.ept (bC b),.ept [.ept (al p)]] (by have:=qK p C8;omega) (fun l _=>Ih b p l (by omega) Nf ht.out);have SN:=rd zj p.root.meets roots 123 [.ept [.ept (al p)]] (by omega) (fun q _=>Ii p q);have vk:(roots.length+1)*16≤140737488355328:=by omega
     replace rX:=VZ rX;replace hm:=VZ hm;have b7:p.leases.all (iB b p)=!(p.leases.any fun l=>!iB b p l):=by simp[List.all_eq_not_any_not]
     replace b7:=VZ b7;repeat' (first|(with_reducible refine And.intro ?_ ?_)|(with_reducible refine dw (fun _=>?_) (fun _=>?_))|(with_reducible refine aQ (fun _=>?_) (fun _=>?_))|(with_reducible refine bT (by kernel_rfl))|simp -dsimp only[go_sem,seval, *,bC,al,ej,ed,hp]|((with_reducible refine bU ?_);simp -dsimp only[go_sem,seval,bC,al,ej,ed,hp];first|refine aS (by first|assumption|exact nf|exact gh|exact SN) (by first|exact .inl rfl|exact .inr rfl) ?_|(refine aR (by assumption) ?_ ?_ ?_;(solve|(repeat(first|exact au.refl _|exact au.nil _|(refine au.tup ?_)|(refine au.agg ?_ rfl)|exact trivial|(refine And.intro ?_ ?_))));(solve|exact .inl rfl|exact .inr rfl)))|fail|omega|exact decide_eq_true (by omega)|exact au.refl _)
     case' pos.refine_1.refine_2.refine_1.refine_2=>
      rename_i q1 q2 q3 q4;refine hC _ _ _ _ _ ?_ ⟨k+1,g+1,roots++[p.root],hlt,?_,by simp;omega,rfl,rfl,rfl⟩ (wf (hh:=(by simp only[bC,V6,V1,V5,aL];rfl)))
      ·have:=hm.out;omega
      ·rw[rX.out,q1,b7.out,q2,if_pos q3,q4];rfl
     case' pos.refine_1.refine_2.refine_2=>
      rename_i q1 q2 q3;refine hC _ _ _ _ _ ?_ ⟨k+1,g,roots,hlt,?_,by omega,rfl,rfl,rfl⟩ (wf)
      ·have:=hm.out;omega
      ·rw[rX.out,q1,b7.out,q2,if_neg (by rw[q3];simp)];rfl
     all_goals
      have Bf:eF b b.pools []=false:=by
       rw[rX.out,b7.out];clear hC nf gh SN hz rX hm hr ht b7;grind
      rw[Bf];exact au.refl _
    ·obtain rfl:k=b.pools.length:=by omega
     rw[Yi]at rX;replace rX:=VZ rX;refine aF ?_<;>intros;rw[rX.out];exact au.refl _
section
open Go.Proofs
theorem dK {P:Program}{w:World}{dT sT e:TypeId}{ie:TypeInfo}{sz g o dl dc sl sc:Nat}{a:Addr}{cur:Array Value}{E:TypeId}(ys:List Value)
 (ht:P.underlying dT=some (.slice e)) (hi:P.info? e=some ie) (ck:ie.size=sz) (hn:ys.length=Yo sl dl*sz) (pJ:∀j u,ys[j]? =some u→w.cell? (a.add j)=some u) (h1:∀u∈ys,u.oneCell'=true)
 (hh:w.heap[g]? =some (.cells cur E (0,0))) (ho:o+ys.length≤cur.size) (ty:TypeId):
 (Builtin.copy_ #[dT,sT] ty #[.slice (some ⟨g,o,none⟩) dl dc,.slice (some a) sl sc]).run P w= .ok (goInt (Yo sl dl)) (w.setRow g (ap cur.toList o ys).toArray):=by
 have Ql:=run_firstCells_some (P:=P) w sz (Yo sl dl) a sl sc ys hn pJ;have jv:=run_storeCells_at P g o E ys 0 cur w hh (by simp;omega) h1;have vj:(storeCells ⟨g,o,none⟩ ys).run P w= .ok () (w.setRow g (ap cur.toList o ys).toArray):=by
  rw[jv];simp[ap]
 simp[Builtin.copy_,run_underlying ht,Builtin.lenOf,sizeOf,typeInfo,hi,ck,Ql,vj]
theorem gH {P:Program}(w:World){ops:Array Oper}{rest:List Oper}{o:Oper}{a:Act}{Q:Exit→Act→World→Prop}(QT:o.guard=none)(d s:Operand)(t t':TypeId)
 (ho:o.op= .call {callee:= .builtin .copy,args:=#[d,s],argTypes:=#[t,t']}) (v u:Value) (hd:a.eval d=v) (hs:a.eval s=u) {v':Value}{w':World}
 (hr:(Builtin.copy_ #[t,t'] o.type #[v,u]).run P w= .ok v' w') (h:wpList P ops Q rest (a.put o.dst v') w'):wpList P ops Q (o::rest) a w:=
 wpList_plain QT fun _ hK=>by
  unfold Oper.wp;simp only[execOp,ho,resolve,invoke,builtin,Sem.run_bind,Sem.run_pure,Result.andThen_ok,List.map_toArray,V1,V5,hd,hs,hr];exact hK _ _ h
theorem jD {P:Program}{ops:Array Oper}{o:Oper}{a:Act}{w:World}{K:Act→World→Prop}{Q:Exit→Act→World→Prop}{E:Prop}(hg:o.guard=none)(d x:Operand)(dT sT:TypeId)
 (jU:o.op=Op.call {callee:=Callee.builtin Builtin.copy,args:=#[d,x],argTypes:=#[dT,sT]}) (v u:Value) (hd:a.eval d=v) (hx:a.eval x=u) {v':Value}{w':World}
 (hr:(Builtin.copy_ #[dT,sT] o.type #[v,u]).run P w= .ok v' w') (hK:K (a.put o.dst v') w'):if Region.wanted o (yielded ops a.tmps)=true then Oper.wp P o a w K Q else E:=by
 have hw:Region.wanted o (yielded ops a.tmps)=true:=by simp[Region.wanted,hg]
 rw[if_pos hw];unfold Oper.wp;simp only[execOp,jU,resolve,invoke,builtin,Sem.run_bind,Sem.run_pure,Result.andThen_ok,List.map_toArray,V1,V5,hd,hx,hr];exact hK
theorem nz {P:Program}(w:World){ops:Array Oper}{rest:List Oper}{o:Oper}{a:Act}{Q:Exit→Act→World→Prop}(QT:o.guard=none)(d s:Operand)(t t':TypeId)
 (ho:o.op= .call {callee:= .builtin .append,args:=#[d,s],argTypes:=#[t,t']}) (v u:Value) (hd:a.eval d=v) (hs:a.eval s=u) {v':Value}{w':World}
 (hr:(Builtin.append_ #[t,t'] o.type #[v,u]).run P w= .ok v' w') (h:wpList P ops Q rest (a.put o.dst v') w'):wpList P ops Q (o::rest) a w:=
 wpList_plain QT fun _ hK=>by
  unfold Oper.wp;simp only[execOp,ho,resolve,invoke,builtin,Sem.run_bind,Sem.run_pure,Result.andThen_ok,List.map_toArray,V1,V5,hd,hs,hr];exact hK _ _ h
theorem kr {P:Program}(w:World)(tS tR e:TypeId)(ht:P.underlying tS=some (.slice e))(size:Nat)(hz:∀w,(Go.sizeOf e).run P w= .ok size w)(a b:Addr)(la ca lb cb:Nat)(bq:a.block≠b.block)(sA:TypeId × Nat)(Ms:w.shape? a.block=some sA)(Gv:sA.2≠0)
 (cur:Array Value) (E:TypeId) (hb:w.heap[b.block]? =some (.cells cur E (0,0))) (hc:cur.size≠0):
 (Extern.SlicesOverlaps.overlaps #[tS,tS] #[tR] #[.slice (some a) la ca,.slice (some b) lb cb]).run P w= .ok (.bool false) w:=by
 have Qa:(a.block !=b.block)=true:=by simpa using bq
 have SO:(a.block==b.block)=false:=by simpa using bq
 have wN:w.shape? b.block=some (E,cur.size):=by simp[World.shape?,hb]
 have rV:∀o,w.frozen? ⟨b.block,o,none⟩=false:=fun o=>by simp[World.frozen?,hb]
 have SP:w.frozen? b=false:=by simp[World.frozen?,hb]
 obtain⟨k,hk⟩:∃k,cur.size=k+1:=⟨cur.size - 1,by omega⟩;rw[hk]at wN;change Sem.run P (α:=Value) (do
  let some t:=(#[tS,tS]:Array TypeId)[0]? |stuck "slices.overlaps: no parameter types"
  let .slice elem ←underlying t|stuck "slices.overlaps: slice type expected"
  let size ←sizeOf elem
  match (some a:Option Addr),(some b:Option Addr)with
  |some a,some b=>
   if la=0∨lb=0∨size=0 then pure (Value.bool false)
   else if a.block !=b.block&&(←frozen a)&&(←frozen b)then unsupported .addressObserved
   else do
    if a.block !=b.block then do
     noView a;noView b
     if ←mayBeOne a b then return Value.bool ((←choose (.extern "sameAddr.stringBytes" 2))==1)
    pure (Value.bool (a.block==b.block&&a.off < b.off+lb*size&&b.off < a.off+la*size))
  |_,_=>pure (Value.bool false)) w=_
 by_cases h0:la=0∨lb=0∨size=0
 ·simp[run_underlying ht,hz,h0]
 ·obtain⟨tA,nA⟩:=sA;obtain⟨q,rfl⟩:∃q,nA=q+1:=⟨nA - 1,by simp at Gv;omega⟩;cases vn:w.frozen? a<;>cases SQ:w.frozen? ⟨a.block,q+1,none⟩<;>
   simp[run_underlying ht,hz,h0,Qa,SO,frozen,noView,viewAt,mayBeOne,stringish,shape,Sem.run,Ms,wN,vn,SQ,rV,SP]
def xD (w:World)(E g sz n:Nat)(zs:List Value)(e:Ending)(w':World):Prop:=
 ∃(G:Nat) (R:List Value),n+1≤G∧G≤9223372036854775807∧R.length=G*sz∧R.take ((n+1)*sz)=zs∧e= .returned (.slice (some ⟨w.heap.size,0,none⟩) (n+1) G)∧OneB w w' (some g)∧w'.heap[w.heap.size]? =some (.cells R.toArray E (0,0))
theorem ku {w:World}{g:Nat}{cur:Array Value}{E:TypeId}(hh:w.heap[g]? =some (.cells cur E (0,0)))(o:Nat):w.cell? ⟨g,o,none⟩=cur[o]? :=by
 simp[Xl,hh]
def NT (w:World)(E sz g n:Nat)(zs:List Value)(e:Ending)(w':World):Prop:=
 ∃v',e= .returned v'∧OwnV w' E sz v' n zs∧OneB w w' (some g)∧(cm v'=some g∨∀b,cm v'=some b→w.heap.size≤b)
theorem rj {w:World}{b o:Nat}{u:Value}(h:w.cell? ⟨b,o,none⟩=some u):∃sA,w.shape? b=some sA∧sA.2≠0:=by
 cases hb:w.heap[b]? with
 |none=>simp[Xl,hb]at h
 |some ob=>
  cases ob with
  |cells c e f=>
   have h':c[o]? =some u:=by simpa[Xl,hb]using h
   have:=(W5.1 h').1;exact⟨(e,c.size),by simp[World.shape?,hb],by simp only;omega⟩
  |_=>simp[Xl,hb]at h
theorem Ij {P:Program}{f E sz g i:Nat}{rows:List (List D)}{x:List D}(Mt:sG P f)(x6:0 < sz)(hi:i < rows.length)
 (raw:∀(w:World) (gb cap vb vo vc:Nat) (cur:Array Value) (xs ys:List Value),w.heap[gb]? =some (.cells cur E (0,0))→cap≤maxLen→rows.length≤cap→cur.size=cap*sz→xs.length=rows.length*sz→cur.toList.take (rows.length*sz)=xs→(∀u∈xs,u.oneCell'=true)→
  ys.length=sz→(∀u∈ys,u.oneCell'=true)→vb≠gb→(∀j u,ys[j]? =some u→w.cell? ⟨vb,vo+j,none⟩=some u)→
  Calls P f #[.slice (some ⟨gb,0,none⟩) rows.length cap,.int .i64 i,.slice (some ⟨vb,vo,none⟩) 1 vc] w (NT w E sz gb (rows.length+1) (xs.take (i*sz)++ys++xs.drop (i*sz)))):
 MSpec P f [.own 0 g,.d (.v (.int .i64 i)),.d (.sl sz [x])] [.row E sz g (aa rows)] (.own 0 (g+1)) [.row E sz (g+1) (aa (rows.take i++x::rows.drop i))]:=by
 refine⟨Mt,Wa _,by simp[af,ag],by simp[ay,aH,an],fun X hP hn hm w c vs hr jn=>?_⟩;have bc:=jn.1;match vs,bc with
 |[v0,v1,v2],_=>
  have r0:=jn.2 0 _ v0 rfl rfl;have r1:=bA (jn.2 1 _ v1 rfl rfl);have r2:=bA (jn.2 2 _ v2 rfl rfl);have bq:aa rows≠[]:=fun e=>by
   have:rows.length=0:=by rw[←aA rows,e];rfl
   omega
  have bn:=hr.chunk 0;cases r0 with
  |own _ _ _ dy h1=>
   obtain⟨gb,cap,rfl⟩:=j4 bn dy bq;obtain⟨cur,xs,q1,q2,q3,q4,q5,q6,q7,q8,q9,q10,q11⟩:=di bn dy bq;have JF:=aZ.one q2 (fun d hd=>by obtain⟨r,hr,hd⟩:=Yy.1 hd;exact q6 r hr d hd);rw[aA]at q3 q4 q8 q10 dy ⊢;cases r1;have U7:c.M gb:=(hr.mu gb).2 (.inr ⟨0,by
    have qE:0 < cap:=by omega
    simp only[bp,aw,Cx.block,dy,Xn];exact cg qE⟩)
   have Gk:cur.toList.take (rows.length*sz)=xs:=by
    apply WS;intro j;by_cases hj:j < rows.length*sz
    ·rw[Wo hj,WB,q4 j hj]
    ·rw[Wm (by rw[V2];omega),Wm (by omega)]
   cases r2 with
   |sl _ _ vb vo vc ff hM hb hc' hm' hr' h1' bE aV=>
    obtain⟨ys,y1,-,y2,y3,y4,y5,y6⟩:=sD (w:=w) x6 (RepD.sl (M:=c.M) sz [x] vb vo vc ff hM hb hc' hm' hr' h1' bE aV);have y1':ys.length=sz:=by simpa using y1
    have fY:=raw w gb cap vb vo vc cur xs ys q1 q9 q10 q11 q3 Gk JF y1' y4 (fun e=>hM (e ▸ U7)) (fun j u hj=>by have:=y3 j u hj;rwa [Addr.add_lit]at this);refine fY.mono fun e w' ⟨v',he,bf,da,gE⟩=>?_;have C9:∀r∈aa (rows.take i++x::rows.drop i),r.length=sz:=fun r hr=>by
     obtain⟨q,hq,rfl⟩:=fw hr;rw[Wg];rcases WJ.1 hq with h|h
     ·have:=q5 (q.map .d) (Wp.2 ⟨q,WN h,rfl⟩);simpa using this
     ·rcases WI.1 h with rfl|h
      ·exact y5 _ (by simp)
      ·have:=q5 (q.map .d) (Wp.2 ⟨q,WL h,rfl⟩);simpa using this
    have OZ:∀r∈aa (rows.take i++x::rows.drop i),∀d∈r,d.one=true:=fun r hr d hd=>by
     obtain⟨q,hq,rfl⟩:=fw hr;rcases WJ.1 hq with h|h
     ·exact q6 (q.map .d) (Wp.2 ⟨q,WN h,rfl⟩) d hd
     ·rcases WI.1 h with rfl|h
      ·obtain⟨y,hy,rfl⟩:=Wp.1 hd;exact y6 _ (by simp) y hy
      ·exact q6 (q.map .d) (Wp.2 ⟨q,WL h,rfl⟩) d hd
    have hflat:(aa (rows.take i++x::rows.drop i)).flatten=((aa rows).flatten.take (i*sz))++x.map .d++((aa rows).flatten.drop (i*sz)):=by
     rw[←fJ q5,←io q5];simp only[aa,V6,V1,YQ,Xe,XS,List.map_drop,WE]
    have mJ:aZ c w (aa (rows.take i++x::rows.drop i)).flatten (xs.take (i*sz)++ys++xs.drop (i*sz)):=by
     rw[hflat];refine pV (pV ?_ ?_) ?_
     ·have:=q2.part 0 (i*sz);simpa using this
     ·have:=mV y2;simpa using this
     ·have:=q2.part (i*sz) xs.length;rw[Wj (by rw[Wt,q2.1];omega),Wj (by rw[Wt];omega)]at this;exact this
    have qE:0 < cap:=by omega
    obtain⟨c',s1,s2⟩:=hr.set_row (k:=0) (rows':=aa (rows.take i++x::rows.drop i)) (v':=v') rfl dy (by rw[cg qE];exact da) (by
     have:(aa (rows.take i++x::rows.drop i)).length=rows.length+1:=by rw[aA,V9,V2,Wc,Wt];omega
     rw[this];exact bf) (by rw[cg qE];exact gE) mJ C9 OZ
    have kF:bS [(0,Chunk.row E sz (g+1) (aa (rows.take i++x::rows.drop i)))] (bp [] [.row E sz g (aa rows)]).heap=aw [.row E sz (g+1) (aa (rows.take i++x::rows.drop i))]:=by
     funext k;rw[oO];cases k with
     |zero=>rfl
     |succ k=>rfl
    rw[kF]at s1;exact⟨v',c',he,s2,s1⟩
theorem Ac {sz n i:Nat}{cur:List Value}{xs ys:List Value}(hn:n < i+1+n)(hi:i < n)(hc:(n+1)*sz≤cur.length)(hl:xs.length=n*sz)(pI:ys.length=sz)(ht:cur.take (n*sz)=xs):
 (ap (ap cur ((i+1)*sz) (xs.drop (i*sz))) (i*sz) ys).take ((n+1)*sz)=xs.take (i*sz)++ys++xs.drop (i*sz)∧(ap (ap cur ((i+1)*sz) (xs.drop (i*sz))) (i*sz) ys).length=cur.length:=by
 have h1:i*sz≤n*sz:=WX sz (by omega);have h2:(i+1)*sz=i*sz+sz:=Xf i sz;have h3:(n+1)*sz=n*sz+sz:=Xf n sz;have oC:(xs.drop (i*sz)).length=n*sz - i*sz:=by rw[Wt,hl]
 have hA:(ap cur ((i+1)*sz) (xs.drop (i*sz))).length=cur.length:=aM (by omega);have hB:(ap (ap cur ((i+1)*sz) (xs.drop (i*sz))) (i*sz) ys).length=cur.length:=by rw[aM (by omega)];exact hA
 refine⟨?_,hB⟩;apply WS;intro q;by_cases hq:q < (n+1)*sz
 ·rw[Wo hq,fu (by omega),fu (by omega)];by_cases c1:q < i*sz
  ·rw[if_neg (by omega),if_neg (by omega),WE,WK (by rw[V2];omega),Wo c1,←ht,Wo (by omega)]
  ·by_cases c2:q < i*sz+sz
   ·rw[if_pos (by omega),WE,Wq (by rw[V2];omega),WK (by rw[V2];omega),V2];congr 1;omega
   ·rw[if_neg (by omega),if_pos (by omega),Wq (by rw[V9,V2];omega)];congr 1;rw[V9,V2];omega
 ·rw[Wm (by rw[V2];omega),Wm (by simp only[V9,V2,oC];omega)]
theorem mI:(prog.info? 96).map (fun i=>(i.zero,i.size,i.bytes))=some (some (.agg #[.int .i64 0,.int .i64 0,.int .i64 0,.int .i64 0,.int .i64 0]),5,40):=by kernel_rfl
theorem tH (g cap n i vb vo vc:Nat)(cur:Array Value)(xs ys:List Value)(w:World)(hh:w.heap[g]? =some (.cells cur 96 (0,0)))(hm:cap≤9223372036854775807)(hs:cur.size=cap*5)(hl:xs.length=n*5)(ht:cur.toList.take (n*5)=xs)
 (nc:∀u∈xs,u.oneCell'=true) (hi:i < n) (fF:n+1≤cap) (pI:ys.length=5) (Mi:∀u∈ys,u.oneCell'=true) (MY:vb≠g) (AX:∀j u,ys[j]? =some u→w.cell? ⟨vb,vo+j,none⟩=some u)
 (sA:TypeId × Nat) (Ms:w.shape? vb=some sA) (Gv:sA.2≠0):
 Calls prog 241 #[.slice (some ⟨g,0,none⟩) n cap,.int .i64 i,.slice (some ⟨vb,vo,none⟩) 1 vc] w fun e w'=>
  e= .returned (.slice (some ⟨g,0,none⟩) (n+1) cap)∧w'=(w.drew.setRow g (ap cur.toList ((i+1)*5) (xs.drop (i*5))).toArray).setRow g (ap (ap cur.toList ((i+1)*5) (xs.drop (i*5))) (i*5) ys).toArray:=by
 obtain⟨i0,rW,wL,lE,rT⟩:=info_parts mI;have av:prog.follows .mixedOrders=true:=by kernel_rfl
 have x5:(i:Int)+1=((i+1:Nat):Int):=by omega
 obtain⟨j,hj⟩:∃j,j=i+1:=⟨_,rfl⟩;obtain⟨m,Da⟩:∃m,m=n+1:=⟨_,rfl⟩;have ck:∀w,(sizeOf 96).run prog w= .ok 5 w:=fun w=>by simp[sizeOf,typeInfo,rW,lE]
 have dy:∀lb cb,(callFunc 281 #[.slice (some ⟨vb,vo,none⟩) 1 vc,.slice (some ⟨g,j*5,none⟩) lb cb]).run prog w= .ok (.value (.bool false)) w:=fun lb cb=>by
  rw[run_callFunc_extern (fn:=f281) (by kernel_rfl) (by kernel_rfl) (by kernel_rfl) (by kernel_rfl) (e:=Extern.SlicesOverlaps.overlaps #[81,81] #[4]) (by kernel_rfl),
   kr w 81 4 96 underlying81 5 ck ⟨vb,vo,none⟩ ⟨g,j*5,none⟩ 1 vc lb cb MY sA Ms Gv cur 96 hh (by omega)]
  rfl
 have oC:(xs.drop (i*5)).length=(n - i)*5:=by rw[Wt,hl];omega
 have gI:∀q u,xs[q]? =some u→cur[q]? =some u:=fun q u hq=>by
  rw[←ht,XO]at hq;split at hq
  ·rwa [WB]at hq
  ·cases hq
 obtain⟨C1,vr⟩:∃C1:Array Value,C1=(ap cur.toList (j*5) (xs.drop (i*5))).toArray:=⟨_,rfl⟩;have qL:C1.size=cap*5:=by rw[vr,Xb,aM (by simp;omega)];simpa using hs
 obtain⟨W1,oD⟩:∃W1,W1=w.drew.setRow g C1:=⟨_,rfl⟩;have Db:∀ty dc sc,(Builtin.copy_ #[81,81] ty #[.slice (some ⟨g,j*5,none⟩) (m - j) dc,.slice (some ⟨g,i*5,none⟩) (m - i) sc]).run prog w.drew= .ok (goInt (Yo (m - i) (m - j))) W1:=fun ty dc sc=>by
  rw[oD,vr];exact dK (e:=96) (sz:=5) (xs.drop (i*5)) underlying81 rW lE (by rw[oC,show Yo (m - i) (m - j)=n - i from (by simp only[YI];split<;>omega)]) (fun q u hq=>by
   rw[Addr.add_lit,ku (w:=w.drew) hh];rw[WU]at hq;have:=gI _ u hq;rw[←this]) (fun u hu=>nc u (WL hu)) (w:=w.drew) hh (by rw[oC,hs];omega) ty
 have uu:W1.heap[g]? =some (.cells C1 96 (0,0)):=by rw[oD];exact setRow_heap _ g _ _ _ _ hh
 have Dc:∀(W:World),W=W1→∀ty dc,(Builtin.copy_ #[81,81] ty #[.slice (some ⟨g,i*5,none⟩) (m - i) dc,.slice (some ⟨vb,vo,none⟩) 1 vc]).run prog W= .ok (goInt (Yo 1 (m - i))) (W1.setRow g (ap C1.toList (i*5) ys).toArray):=fun W hW ty dc=>by
  subst hW;exact dK (e:=96) (sz:=5) ys underlying81 rW lE (by rw[pI,show Yo 1 (m - i)=1 from (by simp only[YI];split<;>omega)]) (fun q u hq=>by
   rw[Addr.add_lit,oD];have:=AX q u hq;rw[←this];exact XR (a:=⟨vb,vo+q,none⟩) (by rw[setRow_other _ _ _ _ MY];rfl)) Mi uu (by rw[pI,qL];omega) ty
 have cJ:IntKind.i64.wrap ((i:Int)+1)=(j:Int):=by rw[IntKind.wrap_i64];omega
 have cN:IntKind.i64.wrap ((n:Int)+1)=(m:Int):=by rw[IntKind.wrap_i64];omega
 have cv:Hid (W1.setRow g (ap C1.toList (i*5) ys).toArray=(w.drew.setRow g (ap cur.toList ((i+1)*5) (xs.drop (i*5))).toArray).setRow g (ap (ap cur.toList ((i+1)*5) (xs.drop (i*5))) (i*5) ys).toArray):=by
  show W1.setRow g (ap C1.toList (i*5) ys).toArray=_;rw[oD,vr,hj]
 have O0:¬((i:Int)=(n:Int)):=by omega
 have mO:i≤n:=by omega
 have lx:¬(cap=j):=by omega
 have M6:¬(cap=i):=by omega
 have SS:j≤m:=by omega
 have SU:i≤m:=by omega
 have SV:m≤cap:=by omega
 have SW:¬((cap:Int) < (m:Int)):=by omega
 rw[←Da];have Gt:=VZ hj;have jr:=VZ Da;have hW:=VZ oD;have hC:=VZ vr;clear hj Da oD vr ht hl hs pI qL oC gI x5 uu wL lE rT hh;go_enter func241,ntmps241
 go_wp2_with (simp only[dy])
 go_region_law_o (refine jD rfl _ _ 81 81 rfl _ _ (by simp[Act.eval,Act.put]) (by simp[Act.eval,Act.put]) (Db _ _ _) ?_)
 go_wp2_with (at_builtin;refine gH _ rfl _ _ 81 81 rfl _ _ rfl rfl (Dc _ rfl _ _) ?_)
 go_ret
 exact⟨rfl,cv.out⟩
theorem tI (g cap n i vb vo vc:Nat)(cur:Array Value)(xs ys:List Value)(w:World)(hh:w.heap[g]? =some (.cells cur 96 (0,0)))(hm:cap≤1000000000)(Gq:n≤cap)(hs:cur.size=cap*5)(hl:xs.length=n*5)(ht:cur.toList.take (n*5)=xs)
 (nc:∀u∈xs,u.oneCell'=true) (hi:i < n) (fF:¬n+1≤cap) (pI:ys.length=5) (Mi:∀u∈ys,u.oneCell'=true) (AX:∀j u,ys[j]? =some u→w.cell? ⟨vb,vo+j,none⟩=some u):
 Calls prog 241 #[.slice (some ⟨g,0,none⟩) n cap,.int .i64 i,.slice (some ⟨vb,vo,none⟩) 1 vc] w (xD w 96 g 5 n (xs.take (i*5)++ys++xs.drop (i*5))):=by
 obtain⟨i0,rW,wL,lE,rT⟩:=info_parts mI;have av:prog.follows .mixedOrders=true:=by kernel_rfl
 obtain⟨j,hj⟩:∃j,j=i+1:=⟨_,rfl⟩;obtain⟨m,Da⟩:∃m,m=n+1:=⟨_,rfl⟩;obtain⟨k,hk⟩:∃k,k=m - i:=⟨_,rfl⟩;obtain⟨B,hB⟩:∃B,B=w.heap.size:=⟨_,rfl⟩;have SX:g < B:=by rw[hB];exact j7 hh
 have OV:vb < B:=by
  obtain⟨u,hu⟩:∃u,ys[0]? =some u:=⟨_,VY (by omega)⟩;have:=AX 0 u hu;rw[hB];rcases Wv vb w.heap.size with h|h
  ·exact h
  ·simp[Xl,WT h]at this
 have gI:∀q u,xs[q]? =some u→cur[q]? =some u:=fun q u hq=>by
  rw[←ht,XO]at hq;split at hq
  ·rwa [WB]at hq
  ·cases hq
 have hold:(Builtin.firstCells i0.size i (.slice (some ⟨g,0,none⟩) i cap)).run prog w.drew= .ok (xs.take (i*5)).toArray w.drew:=by
  rw[lE];exact run_firstCells_some w.drew 5 i ⟨g,0,none⟩ i cap (xs.take (i*5)) (by rw[V2];omega) (fun q u hq=>by
   rw[Addr.add_lit,ku (w:=w.drew) hh,Wn];rw[XO]at hq;split at hq
   ·exact gI q u hq
   ·cases hq)
 obtain⟨G,hG⟩:∃G,G=grownCap w (i+k) cap 96:=⟨_,rfl⟩;have O1:i+k=m:=by omega
 have U8:m≤G:=by rw[hG,O1];exact grownCap_ge w _ _ _
 have O2:G≤9223372036854775807:=by
  have:=grownCap_le_maxLen w (i+k) cap 96 (by unfold maxLen;omega);rw[←hG]at this;unfold maxLen at this;omega
 obtain⟨C0,Mu⟩:∃C0:Array Value,C0=(xs.take (i*5)).toArray++Builtin.zeroCells (Value.agg #[.int .i64 0,.int .i64 0,.int .i64 0,.int .i64 0,.int .i64 0]).cells k++Builtin.zeroCells (Value.agg #[.int .i64 0,.int .i64 0,.int .i64 0,.int .i64 0,.int .i64 0]).cells (G - m):=⟨_,rfl⟩;have QU:∀ty,(Builtin.append_ #[81,3] ty #[.slice (some ⟨g,0,none⟩) i cap,.int .i64 ((m:Int) - (i:Int))]).run prog w= .ok (.slice (some ⟨B,0,none⟩) m G) (w.drew.alloc (.cells C0 96)):=fun ty=>by
  have hz:=Lib.run_append_grow_zeros (P:=prog) w 81 3 ty 96 i0 _ .i64 .i64 underlying81 underlying3 rW wL (some ⟨g,0,none⟩) i cap (xs.take (i*5)) hold k (by omega) (by omega) (by omega) (by omega) (by rw[rT];omega) (by rw[rT];exact growslice_fits (by omega) (by omega));rw[←hG,O1,←hB]at hz;rw[show (m:Int) - (i:Int)=(k:Int) by omega,hz,Mu]
 have Dd:C0.size=G*5:=by
  rw[Mu];simp[Builtin.zeroCells,Value.cells];omega
 obtain⟨W0,Bg⟩:∃W0,W0=w.drew.alloc (.cells C0 96):=⟨_,rfl⟩;rw[←Bg]at QU;have O3:W0.heap[B]? =some (.cells C0 96 (0,0)):=by rw[Bg,hB];exact gL w.drew _
 have uC:∀b,b < B→W0.heap[b]? =w.heap[b]? :=fun b hb=>by
  rw[Bg];simp only[World.alloc,Array.getElem?_push];rw[if_neg (by show ¬b=w.heap.size;omega)];rfl
 obtain⟨C1,vr⟩:∃C1:Array Value,C1=(ap C0.toList (i*5) ys).toArray:=⟨_,rfl⟩;have qL:C1.size=G*5:=by rw[vr,Xb,aM (by simp;omega)];simpa using Dd
 obtain⟨W1,oD⟩:∃W1,W1=W0.setRow B C1:=⟨_,rfl⟩;have Db:∀ty dc,(Builtin.copy_ #[81,81] ty #[.slice (some ⟨B,i*5,none⟩) (m - i) dc,.slice (some ⟨vb,vo,none⟩) 1 vc]).run prog W0= .ok (goInt (Yo 1 (m - i))) W1:=fun ty dc=>by
  rw[oD,vr];exact dK (e:=96) (sz:=5) ys underlying81 rW lE (by rw[pI,show Yo 1 (m - i)=1 from (by simp only[YI];split<;>omega)]) (fun q u hq=>by
   rw[Addr.add_lit];rw[←AX q u hq];exact XR (a:=⟨vb,vo+q,none⟩) (uC vb OV)) Mi O3 (by rw[pI,Dd];omega) ty
 have uu:W1.heap[B]? =some (.cells C1 96 (0,0)):=by rw[oD];exact setRow_heap _ B _ _ _ _ O3
 have uD:∀b,b < B→W1.heap[b]? =w.heap[b]? :=fun b hb=>by rw[oD,setRow_other _ _ _ _ (by omega)];exact uC b hb
 have oC:(xs.drop (i*5)).length=(n - i)*5:=by rw[Wt,hl];omega
 have Dc:∀ty dc sc,(Builtin.copy_ #[81,81] ty #[.slice (some ⟨B,j*5,none⟩) (m - j) dc,.slice (some ⟨g,i*5,none⟩) (n - i) sc]).run prog W1.drew= .ok (goInt (Yo (n - i) (m - j))) (W1.drew.setRow B (ap C1.toList (j*5) (xs.drop (i*5))).toArray):=fun ty dc sc=>by
  exact dK (e:=96) (sz:=5) (xs.drop (i*5)) underlying81 rW lE (by rw[oC,show Yo (n - i) (m - j)=n - i from (by simp only[YI];split<;>omega)]) (fun q u hq=>by
   rw[Addr.add_lit,ku (w:=W1.drew) (show W1.heap[g]? =_ from (uD g SX).trans hh)];rw[WU]at hq;have:=gI _ u hq;rw[←this]) (fun u hu=>nc u (WL hu)) (w:=W1.drew) uu (by rw[oC,qL];omega) ty
 have hR:Hid (∀e,e=Ending.returned (.slice (some ⟨B,0,none⟩) m G)→xD w 96 g 5 n (xs.take (i*5)++ys++xs.drop (i*5)) e (W1.drew.setRow B (ap C1.toList (j*5) (xs.drop (i*5))).toArray)):=by
  intro e he;refine⟨G,ap C1.toList (j*5) (xs.drop (i*5)),by omega,O2,?_,?_,by rw[he,hB,Da],?_,?_⟩
  ·rw[aM (by rw[oC];simp;omega)];simpa using qL
  ·rw[vr,Xs];have e1:C0.toList.take (i*5)=xs.take (i*5):=by
    rw[Mu];simp only[YR,WE];rw[WY (by simp;omega),Wj (by rw[V2];omega)]
   rw[show (n+1)*5=j*5+(xs.drop (i*5)).length by rw[oC];omega];unfold ap;rw[WY (by simp;omega),Wj (by simp;omega)];congr 1;rw[e1,WY (by simp;omega),Wj (by simp;omega)]
  ·refine⟨?_,?_,?_,?_,fun b hb _=>?_⟩
   ·rw[oD,Bg];rfl
   ·rw[oD,Bg];rfl
   ·rw[oD,Bg];rfl
   ·rw[oD,Bg];simp[Yf]
   ·rw[setRow_other _ _ _ _ (by omega)];exact uD b (by omega)
  ·rw[←hB];exact setRow_heap W1.drew B _ _ _ _ uu
 have cJ:IntKind.i64.wrap ((i:Int)+1)=(j:Int):=by rw[IntKind.wrap_i64];omega
 have cN:IntKind.i64.wrap ((n:Int)+1)=(m:Int):=by rw[IntKind.wrap_i64];omega
 have lF:IntKind.i64.wrap ((m:Int) - (i:Int))=(m:Int) - (i:Int):=by rw[IntKind.wrap_i64];omega
 have O0:¬((i:Int)=(n:Int)):=by omega
 have mO:i≤n:=by omega
 have lx:¬(G=j):=by omega
 have M6:¬(G=i):=by omega
 have SS:j≤m:=by omega
 have SU:i≤m:=by omega
 have SV:i≤cap:=by omega
 have SW:(cap:Int) < (m:Int):=by omega
 have RG:¬(cap=i):=by omega
 have U9:j≤G:=by omega
 have SY:i≤G:=by omega
 clear hold Dd qL oC pI hl hs ht hh O3 uu uC uD gI O1 wL lE rT hG Bg oD Mu vr hk hj Da hB fF;go_enter func241,ntmps241
 go_wp2_with (at_builtin;first|refine nz _ rfl _ _ 81 3 rfl _ _ rfl rfl (QU _) ?_|refine gH _ rfl _ _ 81 81 rfl _ _ rfl rfl (Db _ _) ?_)
 go_region_law_o (refine jD rfl _ _ 81 81 rfl _ _ (by simp[Act.eval,Act.put]) (by simp[Act.eval,Act.put]) (Dc _ _ _) ?_)
 go_wp2_with fail
 go_ret
 exact hR.out _ rfl
theorem xE (l:List Lse)(x:Lse)(i g:Nat)(hi:i≤l.length)(hl:l.length≤1000000):
 MSpec prog 241 [.own 0 g,.d (.v (.int .i64 i)),.d (.sl 5 [aW x])] [.row 96 5 g (aa (l.map aW))] (.own 0 (g+1)) [.row 96 5 (g+1) (aa ((l.take i++x::l.drop i).map aW))]:=by
 rcases Wv i l.length with hlt|hge
 ·have h1:=Ij (P:=prog) (f:=241) (E:=96) (sz:=5) (g:=g) (i:=i) (rows:=l.map aW) (x:=aW x) (ce func241 (by kernel_rfl) rfl) (by omega) (by simpa using hlt) (by
   simp only[Wg];intro w gb cap vb vo vc cur xs ys q1 q2 q3 q4 q5 q6 q7 q8 q9 q10 q11;obtain⟨u,hu⟩:∃u,ys[0]? =some u:=⟨_,VY (by omega)⟩;obtain⟨sA,Ms,Gv⟩:=rj (q11 0 u hu);unfold maxLen at q2;by_cases fF:l.length+1≤cap
   ·refine(tH gb cap l.length i vb vo vc cur xs ys w q1 (by omega) q4 q5 q6 q7 hlt fF q8 q9 q10 q11 sA Ms Gv).mono ?_;rintro e w' ⟨rfl,rfl⟩;obtain⟨t1,t2⟩:=Ac (sz:=5) (n:=l.length) (i:=i) (cur:=cur.toList) (xs:=xs) (ys:=ys) (by omega) hlt (by simp;omega) q5 q8 q6;have QB:(w.drew.setRow gb (ap cur.toList ((i+1)*5) (xs.drop (i*5))).toArray).heap[gb]? =some (.cells (ap cur.toList ((i+1)*5) (xs.drop (i*5))).toArray 96 (0,0)):=setRow_heap _ gb _ _ _ _ q1;refine⟨_,rfl,.row gb (l.length+1) cap _ _ (by omega) (setRow_heap _ gb _ _ _ _ QB) fF q2 (by rw[Xb,t2];simpa using q4) (by rw[←t1,V2,t2];simp;omega) (by rw[Xs];exact t1),⟨rfl,rfl,rfl,by simp[Yf],fun b hb bq=>?_⟩,.inl (cg (by omega))⟩;have ci:b≠gb:=fun e=>bq (by rw[e]);rw[setRow_other _ _ _ _ ci,setRow_other _ _ _ _ ci];rfl
   ·refine(tI gb cap l.length i vb vo vc cur xs ys w q1 (by omega) q3 q4 q5 q6 q7 hlt fF q8 q9 q11).mono ?_;rintro e w' ⟨G,R,h1,h2,h3,h4,rfl,h6,h7⟩;exact⟨_,rfl,.row w.heap.size (l.length+1) G R.toArray _ (by omega) h7 h1 h2 (by simpa using h3) (by rw[←h4,V2,h3];omega) (by simpa using h4),h6,.inr fun b hb=>by rw[cg (by omega)]at hb;cases hb;exact Wa _⟩)
  rw[V6,XS,V1,List.map_drop];exact h1
 ·obtain rfl:i=l.length:=by omega
  rw[V4,Yi];by_cases h0:l=[]
  ·subst h0;refine mj func241 ntmps241 results241 ?_;repeat' (first|(with_reducible refine And.intro ?_ ?_)|(with_reducible refine dw (fun _=>?_) (fun _=>?_))|(with_reducible refine aQ (fun _=>?_) (fun _=>?_))|(with_reducible refine bT (by kernel_rfl))|simp -dsimp only[go_sem,seval, *,aW,aa,Wk]|((with_reducible refine bU ?_);simp -dsimp only[go_sem,seval,aW,aa,Wk];first|refine aS (by first|assumption|fail) (by first|exact .inl rfl|exact .inr rfl) ?_|refine aR (by assumption) (by repeat(first|exact au.refl _|exact au.nil _|(refine au.tup ?_)|(refine au.agg ?_ rfl)|exact trivial|(refine And.intro ?_ ?_))) (by first|exact .inl rfl|exact .inr rfl) ?_)|omega|exact decide_eq_true (by omega)|exact au.refl _)
   all_goals exact aP rfl rfl
  ·have bq:¬aa (l.map aW)=[]:=by simpa[aa]using h0
   refine mj func241 ntmps241 results241 ?_;repeat' (first|(with_reducible refine And.intro ?_ ?_)|(with_reducible refine dw (fun _=>?_) (fun _=>?_))|(with_reducible refine aQ (fun _=>?_) (fun _=>?_))|(with_reducible refine bT (by kernel_rfl))|simp -dsimp only[go_sem,seval, *,aW,Wk]|((with_reducible refine bU ?_);simp -dsimp only[go_sem,seval,aW,Wk];first|refine aS (by first|assumption|fail) (by first|exact .inl rfl|exact .inr rfl) ?_|refine aR (by assumption) (by repeat(first|exact au.refl _|exact au.nil _|(refine au.tup ?_)|(refine au.agg ?_ rfl)|exact trivial|(refine And.intro ?_ ?_))) (by first|exact .inl rfl|exact .inr rfl) ?_)|omega|exact decide_eq_true (by omega)|exact au.refl _)
   all_goals exact aP rfl (by simp[aW,aa])
theorem nG:(prog.info? 83).map (fun i=>(i.zero,i.size,i.bytes))=some (some (.agg #[.int .i64 0,.int .i64 0,.int .i64 0,.int .i64 0,.int .i64 0,.int .i64 0,.int .i64 0,.int .i64 0,.slice none 0 0]),9,88):=by kernel_rfl
theorem uW (g cap n i vb vo vc:Nat)(cur:Array Value)(xs ys:List Value)(w:World)(hh:w.heap[g]? =some (.cells cur 83 (0,0)))(hm:cap≤9223372036854775807)(hs:cur.size=cap*9)(hl:xs.length=n*9)(ht:cur.toList.take (n*9)=xs)
 (nc:∀u∈xs,u.oneCell'=true) (hi:i < n) (fF:n+1≤cap) (pI:ys.length=9) (Mi:∀u∈ys,u.oneCell'=true) (MY:vb≠g) (AX:∀j u,ys[j]? =some u→w.cell? ⟨vb,vo+j,none⟩=some u)
 (sA:TypeId × Nat) (Ms:w.shape? vb=some sA) (Gv:sA.2≠0):
 Calls prog 237 #[.slice (some ⟨g,0,none⟩) n cap,.int .i64 i,.slice (some ⟨vb,vo,none⟩) 1 vc] w fun e w'=>
  e= .returned (.slice (some ⟨g,0,none⟩) (n+1) cap)∧w'=(w.drew.setRow g (ap cur.toList ((i+1)*9) (xs.drop (i*9))).toArray).setRow g (ap (ap cur.toList ((i+1)*9) (xs.drop (i*9))) (i*9) ys).toArray:=by
 obtain⟨i0,rW,wL,lE,rT⟩:=info_parts nG;have av:prog.follows .mixedOrders=true:=by kernel_rfl
 have x5:(i:Int)+1=((i+1:Nat):Int):=by omega
 obtain⟨j,hj⟩:∃j,j=i+1:=⟨_,rfl⟩;obtain⟨m,Da⟩:∃m,m=n+1:=⟨_,rfl⟩;have ck:∀w,(sizeOf 83).run prog w= .ok 9 w:=fun w=>by simp[sizeOf,typeInfo,rW,lE]
 have dy:∀lb cb,(callFunc 278 #[.slice (some ⟨vb,vo,none⟩) 1 vc,.slice (some ⟨g,j*9,none⟩) lb cb]).run prog w= .ok (.value (.bool false)) w:=fun lb cb=>by
  rw[run_callFunc_extern (fn:=f278) (by kernel_rfl) (by kernel_rfl) (by kernel_rfl) (by kernel_rfl) (e:=Extern.SlicesOverlaps.overlaps #[28,28] #[4]) (by kernel_rfl),
   kr w 28 4 83 underlying28 9 ck ⟨vb,vo,none⟩ ⟨g,j*9,none⟩ 1 vc lb cb MY sA Ms Gv cur 83 hh (by omega)]
  rfl
 have oC:(xs.drop (i*9)).length=(n - i)*9:=by rw[Wt,hl];omega
 have gI:∀q u,xs[q]? =some u→cur[q]? =some u:=fun q u hq=>by
  rw[←ht,XO]at hq;split at hq
  ·rwa [WB]at hq
  ·cases hq
 obtain⟨C1,vr⟩:∃C1:Array Value,C1=(ap cur.toList (j*9) (xs.drop (i*9))).toArray:=⟨_,rfl⟩;have qL:C1.size=cap*9:=by rw[vr,Xb,aM (by simp;omega)];simpa using hs
 obtain⟨W1,oD⟩:∃W1,W1=w.drew.setRow g C1:=⟨_,rfl⟩;have Db:∀ty dc sc,(Builtin.copy_ #[28,28] ty #[.slice (some ⟨g,j*9,none⟩) (m - j) dc,.slice (some ⟨g,i*9,none⟩) (m - i) sc]).run prog w.drew= .ok (goInt (Yo (m - i) (m - j))) W1:=fun ty dc sc=>by
  rw[oD,vr];exact dK (e:=83) (sz:=9) (xs.drop (i*9)) underlying28 rW lE (by rw[oC,show Yo (m - i) (m - j)=n - i from (by simp only[YI];split<;>omega)]) (fun q u hq=>by
   rw[Addr.add_lit,ku (w:=w.drew) hh];rw[WU]at hq;have:=gI _ u hq;rw[←this]) (fun u hu=>nc u (WL hu)) (w:=w.drew) hh (by rw[oC,hs];omega) ty
 have uu:W1.heap[g]? =some (.cells C1 83 (0,0)):=by rw[oD];exact setRow_heap _ g _ _ _ _ hh
 have Dc:∀(W:World),W=W1→∀ty dc,(Builtin.copy_ #[28,28] ty #[.slice (some ⟨g,i*9,none⟩) (m - i) dc,.slice (some ⟨vb,vo,none⟩) 1 vc]).run prog W= .ok (goInt (Yo 1 (m - i))) (W1.setRow g (ap C1.toList (i*9) ys).toArray):=fun W hW ty dc=>by
  subst hW;exact dK (e:=83) (sz:=9) ys underlying28 rW lE (by rw[pI,show Yo 1 (m - i)=1 from (by simp only[YI];split<;>omega)]) (fun q u hq=>by
   rw[Addr.add_lit,oD];have:=AX q u hq;rw[←this];exact XR (a:=⟨vb,vo+q,none⟩) (by rw[setRow_other _ _ _ _ MY];rfl)) Mi uu (by rw[pI,qL];omega) ty
 have cJ:IntKind.i64.wrap ((i:Int)+1)=(j:Int):=by rw[IntKind.wrap_i64];omega
 have cN:IntKind.i64.wrap ((n:Int)+1)=(m:Int):=by rw[IntKind.wrap_i64];omega
 have cv:Hid (W1.setRow g (ap C1.toList (i*9) ys).toArray=(w.drew.setRow g (ap cur.toList ((i+1)*9) (xs.drop (i*9))).toArray).setRow g (ap (ap cur.toList ((i+1)*9) (xs.drop (i*9))) (i*9) ys).toArray):=by
  show W1.setRow g (ap C1.toList (i*9) ys).toArray=_;rw[oD,vr,hj]
 have O0:¬((i:Int)=(n:Int)):=by omega
 have mO:i≤n:=by omega
 have lx:¬(cap=j):=by omega
 have M6:¬(cap=i):=by omega
 have SS:j≤m:=by omega
 have SU:i≤m:=by omega
 have SV:m≤cap:=by omega
 have SW:¬((cap:Int) < (m:Int)):=by omega
 rw[←Da];have Gt:=VZ hj;have jr:=VZ Da;have hW:=VZ oD;have hC:=VZ vr;clear hj Da oD vr ht hl hs pI qL oC gI x5 uu wL lE rT hh;go_enter func237,ntmps237
 go_wp2_with (simp only[dy])
 go_region_law_o (refine jD rfl _ _ 28 28 rfl _ _ (by simp[Act.eval,Act.put]) (by simp[Act.eval,Act.put]) (Db _ _ _) ?_)
 go_wp2_with (at_builtin;refine gH _ rfl _ _ 28 28 rfl _ _ rfl rfl (Dc _ rfl _ _) ?_)
 go_ret
 exact⟨rfl,cv.out⟩
theorem uX (g cap n i vb vo vc:Nat)(cur:Array Value)(xs ys:List Value)(w:World)(hh:w.heap[g]? =some (.cells cur 83 (0,0)))(hm:cap≤1000000000)(Gq:n≤cap)(hs:cur.size=cap*9)(hl:xs.length=n*9)(ht:cur.toList.take (n*9)=xs)
 (nc:∀u∈xs,u.oneCell'=true) (hi:i < n) (fF:¬n+1≤cap) (pI:ys.length=9) (Mi:∀u∈ys,u.oneCell'=true) (AX:∀j u,ys[j]? =some u→w.cell? ⟨vb,vo+j,none⟩=some u):
 Calls prog 237 #[.slice (some ⟨g,0,none⟩) n cap,.int .i64 i,.slice (some ⟨vb,vo,none⟩) 1 vc] w (xD w 83 g 9 n (xs.take (i*9)++ys++xs.drop (i*9))):=by
 obtain⟨i0,rW,wL,lE,rT⟩:=info_parts nG;have av:prog.follows .mixedOrders=true:=by kernel_rfl
 obtain⟨j,hj⟩:∃j,j=i+1:=⟨_,rfl⟩;obtain⟨m,Da⟩:∃m,m=n+1:=⟨_,rfl⟩;obtain⟨k,hk⟩:∃k,k=m - i:=⟨_,rfl⟩;obtain⟨B,hB⟩:∃B,B=w.heap.size:=⟨_,rfl⟩;have SX:g < B:=by rw[hB];exact j7 hh
 have OV:vb < B:=by
  obtain⟨u,hu⟩:∃u,ys[0]? =some u:=⟨_,VY (by omega)⟩;have:=AX 0 u hu;rw[hB];rcases Wv vb w.heap.size with h|h
  ·exact h
  ·simp[Xl,WT h]at this
 have gI:∀q u,xs[q]? =some u→cur[q]? =some u:=fun q u hq=>by
  rw[←ht,XO]at hq;split at hq
  ·rwa [WB]at hq
  ·cases hq
 have hold:(Builtin.firstCells i0.size i (.slice (some ⟨g,0,none⟩) i cap)).run prog w.drew= .ok (xs.take (i*9)).toArray w.drew:=by
  rw[lE];exact run_firstCells_some w.drew 9 i ⟨g,0,none⟩ i cap (xs.take (i*9)) (by rw[V2];omega) (fun q u hq=>by
   rw[Addr.add_lit,ku (w:=w.drew) hh,Wn];rw[XO]at hq;split at hq
   ·exact gI q u hq
   ·cases hq)
 obtain⟨G,hG⟩:∃G,G=grownCap w (i+k) cap 83:=⟨_,rfl⟩;have O1:i+k=m:=by omega
 have U8:m≤G:=by rw[hG,O1];exact grownCap_ge w _ _ _
 have O2:G≤9223372036854775807:=by
  have:=grownCap_le_maxLen w (i+k) cap 83 (by unfold maxLen;omega);rw[←hG]at this;unfold maxLen at this;omega
 obtain⟨C0,Mu⟩:∃C0:Array Value,C0=(xs.take (i*9)).toArray++Builtin.zeroCells (Value.agg #[.int .i64 0,.int .i64 0,.int .i64 0,.int .i64 0,.int .i64 0,.int .i64 0,.int .i64 0,.int .i64 0,.slice none 0 0]).cells k++Builtin.zeroCells (Value.agg #[.int .i64 0,.int .i64 0,.int .i64 0,.int .i64 0,.int .i64 0,.int .i64 0,.int .i64 0,.int .i64 0,.slice none 0 0]).cells (G - m):=⟨_,rfl⟩;have QU:∀ty,(Builtin.append_ #[28,3] ty #[.slice (some ⟨g,0,none⟩) i cap,.int .i64 ((m:Int) - (i:Int))]).run prog w= .ok (.slice (some ⟨B,0,none⟩) m G) (w.drew.alloc (.cells C0 83)):=fun ty=>by
  have hz:=Lib.run_append_grow_zeros (P:=prog) w 28 3 ty 83 i0 _ .i64 .i64 underlying28 underlying3 rW wL (some ⟨g,0,none⟩) i cap (xs.take (i*9)) hold k (by omega) (by omega) (by omega) (by omega) (by rw[rT];omega) (by rw[rT];exact growslice_fits (by omega) (by omega));rw[←hG,O1,←hB]at hz;rw[show (m:Int) - (i:Int)=(k:Int) by omega,hz,Mu]
 have Dd:C0.size=G*9:=by
  rw[Mu];simp[Builtin.zeroCells,Value.cells];omega
 obtain⟨W0,Bg⟩:∃W0,W0=w.drew.alloc (.cells C0 83):=⟨_,rfl⟩;rw[←Bg]at QU;have O3:W0.heap[B]? =some (.cells C0 83 (0,0)):=by rw[Bg,hB];exact gL w.drew _
 have uC:∀b,b < B→W0.heap[b]? =w.heap[b]? :=fun b hb=>by
  rw[Bg];simp only[World.alloc,Array.getElem?_push];rw[if_neg (by show ¬b=w.heap.size;omega)];rfl
 obtain⟨C1,vr⟩:∃C1:Array Value,C1=(ap C0.toList (i*9) ys).toArray:=⟨_,rfl⟩;have qL:C1.size=G*9:=by rw[vr,Xb,aM (by simp;omega)];simpa using Dd
 obtain⟨W1,oD⟩:∃W1,W1=W0.setRow B C1:=⟨_,rfl⟩;have Db:∀ty dc,(Builtin.copy_ #[28,28] ty #[.slice (some ⟨B,i*9,none⟩) (m - i) dc,.slice (some ⟨vb,vo,none⟩) 1 vc]).run prog W0= .ok (goInt (Yo 1 (m - i))) W1:=fun ty dc=>by
  rw[oD,vr];exact dK (e:=83) (sz:=9) ys underlying28 rW lE (by rw[pI,show Yo 1 (m - i)=1 from (by simp only[YI];split<;>omega)]) (fun q u hq=>by
   rw[Addr.add_lit];rw[←AX q u hq];exact XR (a:=⟨vb,vo+q,none⟩) (uC vb OV)) Mi O3 (by rw[pI,Dd];omega) ty
 have uu:W1.heap[B]? =some (.cells C1 83 (0,0)):=by rw[oD];exact setRow_heap _ B _ _ _ _ O3
 have uD:∀b,b < B→W1.heap[b]? =w.heap[b]? :=fun b hb=>by rw[oD,setRow_other _ _ _ _ (by omega)];exact uC b hb
 have oC:(xs.drop (i*9)).length=(n - i)*9:=by rw[Wt,hl];omega
 have Dc:∀ty dc sc,(Builtin.copy_ #[28,28] ty #[.slice (some ⟨B,j*9,none⟩) (m - j) dc,.slice (some ⟨g,i*9,none⟩) (n - i) sc]).run prog W1.drew= .ok (goInt (Yo (n - i) (m - j))) (W1.drew.setRow B (ap C1.toList (j*9) (xs.drop (i*9))).toArray):=fun ty dc sc=>by
  exact dK (e:=83) (sz:=9) (xs.drop (i*9)) underlying28 rW lE (by rw[oC,show Yo (n - i) (m - j)=n - i from (by simp only[YI];split<;>omega)]) (fun q u hq=>by
   rw[Addr.add_lit,ku (w:=W1.drew) (show W1.heap[g]? =_ from (uD g SX).trans hh)];rw[WU]at hq;have:=gI _ u hq;rw[←this]) (fun u hu=>nc u (WL hu)) (w:=W1.drew) uu (by rw[oC,qL];omega) ty
 have hR:Hid (∀e,e=Ending.returned (.slice (some ⟨B,0,none⟩) m G)→xD w 83 g 9 n (xs.take (i*9)++ys++xs.drop (i*9)) e (W1.drew.setRow B (ap C1.toList (j*9) (xs.drop (i*9))).toArray)):=by
  intro e he;refine⟨G,ap C1.toList (j*9) (xs.drop (i*9)),by omega,O2,?_,?_,by rw[he,hB,Da],?_,?_⟩
  ·rw[aM (by rw[oC];simp;omega)];simpa using qL
  ·rw[vr,Xs];have e1:C0.toList.take (i*9)=xs.take (i*9):=by
    rw[Mu];simp only[YR,WE];rw[WY (by simp;omega),Wj (by rw[V2];omega)]
   rw[show (n+1)*9=j*9+(xs.drop (i*9)).length by rw[oC];omega];unfold ap;rw[WY (by simp;omega),Wj (by simp;omega)];congr 1;rw[e1,WY (by simp;omega),Wj (by simp;omega)]
  ·refine⟨?_,?_,?_,?_,fun b hb _=>?_⟩
   ·rw[oD,Bg];rfl
   ·rw[oD,Bg];rfl
   ·rw[oD,Bg];rfl
   ·rw[oD,Bg];simp[Yf]
   ·rw[setRow_other _ _ _ _ (by omega)];exact uD b (by omega)
  ·rw[←hB];exact setRow_heap W1.drew B _ _ _ _ uu
 have cJ:IntKind.i64.wrap ((i:Int)+1)=(j:Int):=by rw[IntKind.wrap_i64];omega
 have cN:IntKind.i64.wrap ((n:Int)+1)=(m:Int):=by rw[IntKind.wrap_i64];omega
 have lF:IntKind.i64.wrap ((m:Int) - (i:Int))=(m:Int) - (i:Int):=by rw[IntKind.wrap_i64];omega
 have O0:¬((i:Int)=(n:Int)):=by omega
 have mO:i≤n:=by omega
 have lx:¬(G=j):=by omega
 have M6:¬(G=i):=by omega
 have SS:j≤m:=by omega
 have SU:i≤m:=by omega
 have SV:i≤cap:=by omega
 have SW:(cap:Int) < (m:Int):=by omega
 have RG:¬(cap=i):=by omega
 have U9:j≤G:=by omega
 have SY:i≤G:=by omega
 clear hold Dd qL oC pI hl hs ht hh O3 uu uC uD gI O1 wL lE rT hG Bg oD Mu vr hk hj Da hB fF;go_enter func237,ntmps237
 go_wp2_with (at_builtin;first|refine nz _ rfl _ _ 28 3 rfl _ _ rfl rfl (QU _) ?_|refine gH _ rfl _ _ 28 28 rfl _ _ rfl rfl (Db _ _) ?_)
 go_region_law_o (refine jD rfl _ _ 28 28 rfl _ _ (by simp[Act.eval,Act.put]) (by simp[Act.eval,Act.put]) (Dc _ _ _) ?_)
 go_wp2_with fail
 go_ret
 exact hR.out _ rfl
theorem Ad (l:List Pol)(x:Pol)(i g:Nat)(hi:i≤l.length)(hl:l.length≤1000000):
 MSpec prog 237 [.own 0 g,.d (.v (.int .i64 i)),.d (.sl 9 [al x])] [.row 83 9 g (aa (l.map al))] (.own 0 (g+1)) [.row 83 9 (g+1) (aa ((l.take i++x::l.drop i).map al))]:=by
 rcases Wv i l.length with hlt|hge
 ·have h1:=Ij (P:=prog) (f:=237) (E:=83) (sz:=9) (g:=g) (i:=i) (rows:=l.map al) (x:=al x) (ce func237 (by kernel_rfl) rfl) (by omega) (by simpa using hlt) (by
   simp only[Wg];intro w gb cap vb vo vc cur xs ys q1 q2 q3 q4 q5 q6 q7 q8 q9 q10 q11;obtain⟨u,hu⟩:∃u,ys[0]? =some u:=⟨_,VY (by omega)⟩;obtain⟨sA,Ms,Gv⟩:=rj (q11 0 u hu);unfold maxLen at q2;by_cases fF:l.length+1≤cap
   ·refine(uW gb cap l.length i vb vo vc cur xs ys w q1 (by omega) q4 q5 q6 q7 hlt fF q8 q9 q10 q11 sA Ms Gv).mono ?_;rintro e w' ⟨rfl,rfl⟩;obtain⟨t1,t2⟩:=Ac (sz:=9) (n:=l.length) (i:=i) (cur:=cur.toList) (xs:=xs) (ys:=ys) (by omega) hlt (by simp;omega) q5 q8 q6;have QB:(w.drew.setRow gb (ap cur.toList ((i+1)*9) (xs.drop (i*9))).toArray).heap[gb]? =some (.cells (ap cur.toList ((i+1)*9) (xs.drop (i*9))).toArray 83 (0,0)):=setRow_heap _ gb _ _ _ _ q1;refine⟨_,rfl,.row gb (l.length+1) cap _ _ (by omega) (setRow_heap _ gb _ _ _ _ QB) fF q2 (by rw[Xb,t2];simpa using q4) (by rw[←t1,V2,t2];simp;omega) (by rw[Xs];exact t1),⟨rfl,rfl,rfl,by simp[Yf],fun b hb bq=>?_⟩,.inl (cg (by omega))⟩;have ci:b≠gb:=fun e=>bq (by rw[e]);rw[setRow_other _ _ _ _ ci,setRow_other _ _ _ _ ci];rfl
   ·refine(uX gb cap l.length i vb vo vc cur xs ys w q1 (by omega) q3 q4 q5 q6 q7 hlt fF q8 q9 q11).mono ?_;rintro e w' ⟨G,R,h1,h2,h3,h4,rfl,h6,h7⟩;exact⟨_,rfl,.row w.heap.size (l.length+1) G R.toArray _ (by omega) h7 h1 h2 (by simpa using h3) (by rw[←h4,V2,h3];omega) (by simpa using h4),h6,.inr fun b hb=>by rw[cg (by omega)]at hb;cases hb;exact Wa _⟩)
  rw[V6,XS,V1,List.map_drop];exact h1
 ·obtain rfl:i=l.length:=by omega
  rw[V4,Yi];by_cases h0:l=[]
  ·subst h0;refine mj func237 ntmps237 results237 ?_;repeat' (first|(with_reducible refine And.intro ?_ ?_)|(with_reducible refine dw (fun _=>?_) (fun _=>?_))|(with_reducible refine aQ (fun _=>?_) (fun _=>?_))|(with_reducible refine bT (by kernel_rfl))|simp -dsimp only[go_sem,seval, *,al,aa,Wk]|((with_reducible refine bU ?_);simp -dsimp only[go_sem,seval,al,aa,Wk];first|refine aS (by first|assumption|fail) (by first|exact .inl rfl|exact .inr rfl) ?_|refine aR (by assumption) (by repeat(first|exact au.refl _|exact au.nil _|(refine au.tup ?_)|(refine au.agg ?_ rfl)|exact trivial|(refine And.intro ?_ ?_))) (by first|exact .inl rfl|exact .inr rfl) ?_)|omega|exact decide_eq_true (by omega)|exact au.refl _)
   all_goals exact aP rfl rfl
  ·have bq:¬aa (l.map al)=[]:=by simpa[aa]using h0
   refine mj func237 ntmps237 results237 ?_;repeat' (first|(with_reducible refine And.intro ?_ ?_)|(with_reducible refine dw (fun _=>?_) (fun _=>?_))|(with_reducible refine aQ (fun _=>?_) (fun _=>?_))|(with_reducible refine bT (by kernel_rfl))|simp -dsimp only[go_sem,seval, *,al,Wk]|((with_reducible refine bU ?_);simp -dsimp only[go_sem,seval,al,Wk];first|refine aS (by first|assumption|fail) (by first|exact .inl rfl|exact .inr rfl) ?_|refine aR (by assumption) (by repeat(first|exact au.refl _|exact au.nil _|(refine au.tup ?_)|(refine au.agg ?_ rfl)|exact trivial|(refine And.intro ?_ ?_))) (by first|exact .inl rfl|exact .inr rfl) ?_)|omega|exact decide_eq_true (by omega)|exact au.refl _)
   all_goals exact aP rfl (by simp[al,aa])
end
theorem La (b:Bok)(h8:b.pools.length≤8)(jK:∀p∈b.pools,p.leases.length≤32):
 MSpec prog 232 [.d (.agg (bC b))] [] (.ptr 1 0) [.gone,.box 30 [.d (.v (.int .i64 b.tick)),.own 2 b.pools.length],.row 83 9 b.pools.length (aa (b.pools.map al))]:=by
 refine mj func232 ntmps232 results232 ?_;refine aF ?_<;>intros;refine bP ah av b.pools (fun _=>True) (fun k=>[(13,.d (.v (.int .i64 k))),(12,.d (.v (.int .i64 b.pools.length))),(11,.d (.sl 9 (b.pools.map al))),(3,.ptr 1 0),(2,.d (.v (.pointer none)))])
  (fun k=>[.gone,.box 30 [.d (.v (.int .i64 b.tick)),.own 2 k],.row 83 9 k (aa ((b.pools.take k).map al))]) trivial ?_ ?_ ?_
 ·refine(aN 0 (by simp)).trans ((aJ (by simp) 1 30 [.d (.v (.int .i64 b.tick)),.d (.v (.slice none 0 0))] 1 83 9 rfl rfl rfl).trans ?_);exact wf
 ·intro k p hp hk _ C hC;have g8:(k:Int) < (b.pools.length:Int):=by omega
  have ed:=wi k (by omega);have lG:=jK p (V0 hp);have mO:k+1≤100:=by omega
  have hlt:(Xd k b.pools).length=k:=by rw[V2];omega
  have z1z:=Ln.mk (ls:=[]) (fB aW p.leases (by omega));refine aF ?_<;>intros;refine hC _ _ trivial ((ax 4 1 96 5 (p.leases.map aW) rfl).trans ?_);simp only[iJ,fz,f8,fI,g9,fL,aT,bO,bY,V1,V5,Ws,Wu,reduceIte,and_true,true_and,and_self,and_false,false_and,Wn,Wz,reduceCtorEq];exact wf (hh:=(by rw[aj hp,V6,V1,V5,←bi];rfl))
 ·intro _ C;refine aF ?_<;>intros;(try rw[V4])
  exact aP rfl rfl
def ak (p:Pol)(v:PV):List PV:=[.d (.v (.int .i64 p.id)),.d (.v (.int .i64 p.up)),.d (.v (.int .i64 p.root.at_)),.d (.v (.int .i64 p.root.len)),.d (.v (.int .i64 p.rule.min)),.d (.v (.int .i64 p.rule.max)),.d (.v (.int .i64 p.rule.usual)),.d (.v (.int .i64 p.rule.cool)),v]
def d6 (pre:List Pol)(r:List PV)(post:List Pol):List (List PV):=aa (pre.map al)++r::aa (post.map al)
@[go_sem] theorem tJ (pre:List Pol)(r:List PV)(post:List Pol):(d6 pre r post).length=pre.length+1+post.length:=by
 simp[d6,aA];omega
theorem gW (n:Nat):∀(l m:List (List PV)),bN n (l++m)=(bN n l&&bN n m)
 |[],m=>rfl
 |r::l,m=>by simp only[WH,bN,gW n l m,Y0]
theorem fp (n:Nat)(pre:List Pol)(r:List PV)(post:List Pol):bN n (d6 pre r post)=af n r:=by
 simp only[d6,gW,bN,an,Xt,Xa]
theorem bz {A:Prop}(h:A:=by first|rfl|simp only[ay,dn,aH,af,bN,ag,aK,an,fp,ak,Wc,WM,Ws,Ys,decide_true,WW,Xa]):A:=h
theorem DT (k g:Nat)(d:D)(pre:List Pol)(r:List PV)(post:List Pol):fL k g d (d6 pre r post)=d6 pre (f8 k g d r) post:=by
 simp only[d6,aT,fL,bO]
theorem FF (pre:List Pol)(r:List PV)(post:List Pol)(q:Pol):d6 pre r post++[(al q).map .d]=d6 pre r (post++[q]):=by
 simp[d6,aa]
theorem NU (b:Bok)(pre post:List Pol)(p:Pol)(hb:b.pools=pre++p::post)(h8:b.pools.length≤8)(jK:∀p∈b.pools,p.leases.length≤32):
 MSpec prog 232 [.d (.agg (bC b))] [] (.ptr 1 0) [.gone,.box 30 [.d (.v (.int .i64 b.tick)),.own 2 b.pools.length],.row 83 9 b.pools.length (d6 pre (ak p (.own 4 1)) post),.gone,.row 96 5 1 (aa (p.leases.map aW))]:=by
 have bc:b.pools.length=pre.length+1+post.length:=by rw[hb];simp;omega
 have hL:=VZ hb;have bR:=VZ bc;clear hb bc;refine mj func232 ntmps232 results232 ?_;refine aF ?_<;>intros;refine cp ah av (fun m e h=>(∃k,k≤pre.length∧m=b.pools.length - k∧e=[(13,.d (.v (.int .i64 k))),(12,.d (.v (.int .i64 b.pools.length))),(11,.d (.sl 9 (b.pools.map al))),(3,.ptr 1 0),(2,.d (.v (.pointer none)))]∧
  h=[.gone,.box 30 [.d (.v (.int .i64 b.tick)),.own 2 k],.row 83 9 k (aa ((pre.take k).map al))])∨
  ∃k j,k=pre.length+1+j∧j≤post.length∧m=b.pools.length - k∧e=[(13,.d (.v (.int .i64 k))),(12,.d (.v (.int .i64 b.pools.length))),(11,.d (.sl 9 (b.pools.map al))),(3,.ptr 1 0),(2,.d (.v (.pointer none)))]∧
   h=[.gone,.box 30 [.d (.v (.int .i64 b.tick)),.own 2 k],.row 83 9 k (d6 pre (ak p (.own 4 1)) (post.take j)),.gone,.row 96 5 1 (aa (p.leases.map aW))]) _ _ _ (.inl ⟨0,Wr _,rfl,rfl,rfl⟩) ?_ ?_
 ·refine(aN 0 (by simp)).trans ((aJ (by simp) 1 30 [.d (.v (.int .i64 b.tick)),.d (.v (.slice none 0 0))] 1 83 9 rfl rfl rfl).trans ?_);exact wf
 ·rintro m e h (⟨k,hk,hm,rfl,rfl⟩|⟨k,j,JG,hj,hm,rfl,rfl⟩) C hC
  ·have g8:(k:Int) < (b.pools.length:Int):=by have:=bR.out;omega
   have ed:=wi k (by omega);have mO:k+1≤100:=by have:=bR.out;omega
   have hlt:(Xd k pre).length=k:=by rw[V2];omega
   have hm:=VZ hm;by_cases lM:k < pre.length
   ·obtain⟨q,hq⟩:∃q,pre[k]? =some q:=⟨_,VY lM⟩;have AY:b.pools[k]? =some q:=by rw[hL.out,WK lM];exact hq
    have lG:=jK q (V0 AY);have hq:=VZ hq;have z1z:=Ln.mk (ls:=[]) (fB aW q.leases (by omega));refine aF ?_<;>intros;refine hC _ _ _ _ _ ?_ (.inl ⟨k+1,lM,rfl,rfl,rfl⟩) ((ax 4 1 96 5 (q.leases.map aW) rfl).trans ?_)
    ·have:=hm.out;have:=bR.out;omega
    simp only[iJ,fz,f8,fI,g9,fL,aT,bO,bY,V1,V5,Ws,Wu,reduceIte,and_true,true_and,and_self,and_false,false_and,Wn,Wz,reduceCtorEq];exact wf (hh:=(by rw[aj hq.out,V6,V1,V5,←bi];rfl))
   ·obtain rfl:k=pre.length:=by omega
    have AY:b.pools[pre.length]? =some p:=by rw[hL.out,Wq (Wa _),Xy];rfl
    have lG:=jK p (V0 AY);have z1z:=Ln.mk (ls:=[]) (fB aW p.leases (by omega));refine aF ?_<;>intros;refine hC _ _ _ _ _ ?_ (.inr ⟨pre.length+1,0,rfl,Wr _,rfl,rfl,rfl⟩) ((aN 3 (by simp)).trans ?_)
    ·have:=hm.out;have:=bR.out;omega
    exact wf (hb:=bz) (hbh:=bz)
  ·have hm:=VZ hm;have Bh:=VZ JG;have mO:pre.length+1+j+1≤100:=by have:=bR.out;omega
   have hlt:(Xd j post).length=j:=by rw[V2];omega
   have Gd:k≤b.pools.length:=by have:=bR.out;omega
   by_cases Gw:j < post.length
   ·obtain⟨q,hq⟩:∃q,post[j]? =some q:=⟨_,VY Gw⟩;have AY:b.pools[k]? =some q:=by
     rw[hL.out,Wq (by omega),show k - pre.length=j+1 by omega,Xg];exact hq
    have lG:=jK q (V0 AY);have g8:(k:Int) < (b.pools.length:Int):=by have:=bR.out;omega
    have ed:=wi k (by omega);have hq:=VZ hq;clear JG;have z1z:=Ln.mk (ls:=[]) (fB aW q.leases (by omega));refine aF ?_<;>intros;refine hC _ _ _ _ _ ?_ (.inr ⟨k+1,j+1,by have:=Bh.out;omega,Gw,rfl,rfl,rfl⟩) ((ax 6 1 96 5 (q.leases.map aW) rfl).trans ?_)
    ·have:=hm.out;have:=bR.out;have:=Bh.out;omega
    simp only[iJ,fz,f8,fI,g9,fL,aT,bO,bY,V1,V5,Ws,Wu,reduceIte,and_true,true_and,and_self,and_false,false_and,Wn,Wz,reduceCtorEq,DT,ak];exact wf (hh:=(by rw[aj hq.out,←FF];rfl)) (hb:=bz) (hbh:=bz)
   ·obtain rfl:j=post.length:=by omega
    obtain rfl:k=b.pools.length:=by have:=bR.out;omega
    clear JG;refine aF ?_<;>intros;(try rw[V4])
    exact aP rfl rfl
@[go_sem] theorem aB (ρ:Nat→Nat)(pre:List Pol)(r:List PV)(post:List Pol):gM ρ (d6 pre r post)=d6 pre (fK ρ r) post:=by
 have app:∀(l m:List (List PV)),gM ρ (l++m)=gM ρ l++gM ρ m:=by
  intro l m;rw[dG,dG,dG,V6]
 simp only[d6,app,gM,sL]
structure BookOK (b:Bok):Prop where
 n8:b.pools.length≤8
 l32:∀p∈b.pools,p.leases.length≤32
 rise:qu b.pools
 tick:0≤b.tick∧b.tick≤1073741824
 mem:∀p∈b.pools,gU p.id=true∧iz p.root (e9 p)=0∧i7 p.rule p.root.len=true
 second:eF b b.pools []=true
theorem d7 {b:Bok}(h:bD b=0):BookOK b:=by
 unfold bD at h;split at h
 ·cases h
 ·rename_i h8;split at h
  ·cases h
  ·rename_i ht;split at h
   ·rename_i hf;rw[Wd]at hf;have hm:=mz _ _ hf.1;refine⟨by omega,fun p hp=>?_,(kZ _ _ hf.1).1,by omega,hm,hf.2⟩;have:=(hm p hp).2.1;unfold iz at this;split at this
    ·cases this
    ·rename_i h;simpa[e9]using h
   ·cases h
theorem kz (b:Bok)(hz:∀p∈b.pools,p.leases.length≤3518437208882)(h:bD b≠0):ae prog 155 [.agg (bC b)] (.tup [.v (.pointer none),.v (.int .i64 (bD b))]):=by
 have hc:=kq b hz;have h1:(bD b !=0)=true:=by simpa using h
 refine pj func155 ntmps155 results155 ?_;exact bx
theorem gA (b:Bok)(hz:∀p∈b.pools,p.leases.length≤3518437208882)(h:bD b=0):
 MSpec prog 155 [.d (.agg (bC b))] [] (.tup [.ptr 2 0,.d (.v (.int .i64 0))]) [.gone,.gone,.box 30 [.d (.v (.int .i64 b.tick)),.own 3 b.pools.length],.row 83 9 b.pools.length (aa (b.pools.map al))]:=by
 have hc:=kq b hz;have hb:=d7 h;have ho:=La b hb.n8 hb.l32;rw[h]at hc;replace h:=VZ h;refine mj func155 ntmps155 results155 ?_;have z1z:=Ln.mk (ls:=[]) (ho);refine aF ?_<;>intros;exact(aN 0 (by simp)).trans (aP rfl rfl)
theorem pp (b:Bok)(pre post:List Pol)(p:Pol)(hp:b.pools=pre++p::post)(hz:∀p∈b.pools,p.leases.length≤3518437208882)(h:bD b=0):
 MSpec prog 155 [.d (.agg (bC b))] [] (.tup [.ptr 2 0,.d (.v (.int .i64 0))]) [.gone,.gone,.box 30 [.d (.v (.int .i64 b.tick)),.own 3 b.pools.length],.row 83 9 b.pools.length (d6 pre (ak p (.own 5 1)) post),.gone,.row 96 5 1 (aa (p.leases.map aW))]:=by
 have hc:=kq b hz;have hb:=d7 h;have ho:=NU b pre post p hp hb.n8 hb.l32;rw[h]at hc;replace h:=VZ h;replace hp:=VZ hp;refine mj func155 ntmps155 results155 ?_;have z1z:=@ak.eq_1;have z2z:=Ln.mk (ls:=[]) (ho);refine aF ?_<;>intros;exact(aN 0 (by simp)).trans (aP rfl rfl)
theorem P1 {α:Type}{key:α→Int}{l:List α}{i:Nat}{q:α}(hs:l.Pairwise fun a b=>key a < key b)(hq:l[i]? =some q):kH key (key q) l=i∧o9 key (key q) l=true:=by
 obtain⟨hi,rfl⟩:=V3.1 hq;have h1:kH key (key l[i]) l=i:=qi (YM hi) (fun k hk Jy=>WG.1 hs k i hk hi Jy) (fun k hk Jy=>by
  rcases Wv i k with h|h
  ·have:=WG.1 hs i k hi hk h;omega
  ·obtain rfl:k=i:=by omega
   exact Int.le_refl _)
 refine⟨h1,?_⟩;unfold o9;rw[h1,hq];simp
theorem xF (b:Bok)(i:Nat)(q:Pol)(g:Nat)(rows:List (List PV))(hs:List Chunk)(c0:PV)(hq:b.pools[i]? =some q)(hr:qu b.pools)(h8:b.pools.length≤8)(wP:rows.length=b.pools.length)
 (hv:cy (aO (aw (.box 30 [c0,.own 1 g]:: .row 83 9 g rows::hs)) 5) rows=some (b.pools.map al)) (oz:bN (hs.length+2) rows=true) (hbh:ay (hs.length+2) hs=true) (Gu:ag (hs.length+2) c0=true):
 MSpec prog 156 [.ptr 0 0,.d (.v (.int .i64 q.id))] (.box 30 [c0,.own 1 g]:: .row 83 9 g rows::hs) (.tup [.rp 1 g 9 i 0,.d (.v (.bool true))]) (.box 30 [c0,.own 1 g]:: .row 83 9 g rows::hs):=by
 have Mr:=qr i9 (fun p=>p.id) b.pools q.id 234 [] (by omega) hr (fun p _=>Ci p q.id);obtain⟨e1,e2⟩:=P1 (key:=fun p:Pol=>p.id) hr hq;rw[e1,e2]at Mr;have hi:i < rows.length:=by rw[wP];exact(V3.1 hq).1
 have RH:(0:Int)≤(i:Int):=by omega
 replace hq:=VZ hq;replace wP:=VZ wP;replace e1:=VZ e1;replace e2:=VZ e2;refine zt ah av func156 rfl ntmps156 results156 (by kernel_rfl) (Wa _) (by simp[af,ag]) (by simp[ay,aH,af,ag,oz,hbh,Gu]) ?_;refine aF ?_<;>intros;exact aP rfl rfl
def cP (p:Pol)(size:Int):Pfx × Int:=
 if size < p.rule.min∨size>p.rule.max then (Pfx.zero,7)else
 if (kn p.root (e9 p) size).2.1=false∨p.leases.length=32 then (Pfx.zero,8)else ((kn p.root (e9 p) size).1,0)
theorem MK (p:Pol)(size:Int)(hl:p.leases.length≤32):ae prog 161 [.ept (al p),.v (.int .i64 size)] (.tup [.agg (aL (cP p size).1),.v (.int .i64 (cP p size).2)]):=by
 have ht:=DS p (by omega);have hf:=K7 p.root (e9 p) size;refine pj func161 ntmps161 results161 ?_;refine rK ?_ ?_ ?_ ?_ ?_ ?_ ?_ ?_<;>first|(with_reducible exact True.intro)|intros
 all_goals clear ht hf
 all_goals first
  |(rw[show cP p size=(Pfx.zero,7) from by unfold cP;grind];exact au.refl _)
  |(rw[show cP p size=(Pfx.zero,8) from by unfold cP;grind];exact au.refl _)
  |(rw[show cP p size=((kn p.root (e9 p) size).1,0) from by unfold cP;grind];exact au.refl _)
@[go_sem] theorem dL (pre:List Pol)(r:List PV)(post:List Pol):(d6 pre r post)[pre.length]? =some r:=by
 unfold d6;rw[Wq (by simp[aA])];simp[aA]
@[go_sem] theorem P2 (pre:List Pol)(r r':List PV)(post:List Pol):(d6 pre r post).set pre.length r'=d6 pre r' post:=by
 unfold d6;rw[XD _ _ (by simp[aA])];simp[aA]
def oh (l:Lse)(ls:List Lse):List Lse:=ls.take (kH (fun x=>x.at_.at_) l.at_.at_ ls)++l::ls.drop (kH (fun x=>x.at_.at_) l.at_.at_ ls)
theorem r9 {α:Type}(key:α→Int)(t:Int)(l:List α):kH key t l≤l.length:=List.findIdx_le_length
theorem NV (x:Lse)(t:Int):ae prog 240 [.agg (aW x),.v (.int .i64 t)] (.v (.int .i64 (dx x.at_.at_ t))):=by
 have hc:=kj x.at_.at_ t;refine pj func240 ntmps240 results240 ?_;exact bx
theorem FG (pre post:List Pol)(p:Pol)(ls:List Lse):d6 pre (ak p (.d (.sl 5 (ls.map aW)))) post=aa ((pre++{p with leases:=ls}::post).map al):=by
 simp only[d6,aa,V6,V1];rfl
theorem ol {P:Program}{m:Nat}(pre post:List Pol)(p:Pol)(g g2:Nat)(ls:List Lse):dH P 1 m [(0,.d (.tup []))] [.row 83 9 g (d6 pre (ak p (.own 1 g2)) post),.row 96 5 g2 (aa (ls.map aW))] [(0,.d (.tup []))] [.row 83 9 g (aa ((pre++{p with leases:=ls}::post).map al)),.gone]:=by
 refine(ax 1 g2 96 5 (ls.map aW) rfl).trans ?_;simp only[iJ,fz,f8,fI,g9,fL,aT,bO,bY,V1,V5,Ws,Wu,reduceIte,and_true,true_and,and_self,and_false,false_and,Wn,Wz,reduceCtorEq,DT,ak];rw[←FG];exact aP rfl rfl
theorem ML (pre post:List Pol)(p:Pol)(l:Lse)(g g2:Nat)(hl:p.leases.length≤32)(hs:p.leases.Pairwise fun a b=>a.at_.at_ < b.at_.at_):
 MSpec prog 162 [.rp 0 g 9 pre.length 0,.d (.agg (aW l))] [.row 83 9 g (d6 pre (ak p (.own 1 g2)) post),.row 96 5 g2 (aa (p.leases.map aW))] (.d (.tup [])) [.row 83 9 g (aa ((pre++{p with leases:=oh l p.leases}::post).map al)),.gone]:=by
 have Mr:=B7 i8 (fun x=>x.at_.at_) p.leases l.at_.at_ 240 [] (by omega) hs (fun x _=>NV x l.at_.at_);have hle:=r9 (fun x:Lse=>x.at_.at_) l.at_.at_ p.leases;have O4:=xE p.leases l (kH (fun x:Lse=>x.at_.at_) l.at_.at_ p.leases) g2 hle (by omega);refine zt ah av func162 rfl ntmps162 results162 (by kernel_rfl) (Wa _) (by simp[af,ag]) (by simp[ay,aH,fp,af,ag,ak,an]) ?_;have z1z:=@ak.eq_1;have z2z:=Ln.mk (ls:=[1]) (O4);refine aF ?_<;>intros;refine dH.trans ?_ (ol pre post p g (g2+1) (oh l p.leases));exact wf (hb:=bz) (hbh:=bz)
def ja (p:Pol)(i:Nat)(tick:Int):List Lse:=if p.rule.cool=0 then p.leases.eraseIdx i else match p.leases[i]? with|some l=>p.leases.set i ⟨l.at_,3,0,tick+p.rule.cool⟩|none=>p.leases
theorem Ik (pre post:List Pol)(p:Pol)(i g g2:Nat)(tick:Int)(hi:i < p.leases.length)(hl:p.leases.length≤32)(uE:0≤p.rule.cool∧p.rule.cool≤1024)(ht:0≤tick∧tick≤1073741824):
 MSpec prog 164 [.rp 0 g 9 pre.length 0,.d (.v (.int .i64 i)),.d (.v (.int .i64 tick))] [.row 83 9 g (d6 pre (ak p (.own 1 g2)) post),.row 96 5 g2 (aa (p.leases.map aW))] (.d (.tup [])) [.row 83 9 g (aa ((pre++{p with leases:=ja p i tick}::post).map al)),.gone]:=by
 refine zt ah av func164 rfl ntmps164 results164 (by kernel_rfl) (Wa _) (by simp[af,ag]) (by simp[ay,aH,fp,af,ag,ak,an]) ?_;by_cases hc:p.rule.cool=0
 ·have gh:ja p i tick=p.leases.eraseIdx i:=by unfold ja;rw[if_pos hc]
  have ed:=wi i (by omega);have hd:=xC (enc:=aW) p.leases i (i+1) g2 hi rfl;have Mo:(p.rule.cool==0)=true:=by simpa using hc
  rw[gh];replace gh:=VZ gh;replace hc:=VZ hc;have z1z:=@ak.eq_1;have z2z:=Ln.mk (ls:=[1]) (hd);refine aF ?_<;>intros;exact ol pre post p g (g2+1) (p.leases.eraseIdx i)
 ·have ed:IntKind.i64.wrap (tick+p.rule.cool)=tick+p.rule.cool:=by rw[IntKind.wrap_i64];omega
  have Mo:(p.rule.cool==0)=false:=by simpa using hc
  obtain⟨l,Eh⟩:∃l,p.leases[i]? =some l:=⟨_,VY hi⟩;have jV:=cB aW p.leases i ⟨l.at_,3,0,tick+p.rule.cool⟩;have gh:ja p i tick=p.leases.set i ⟨l.at_,3,0,tick+p.rule.cool⟩:=by unfold ja;rw[if_neg hc,Eh]
  simp only[aW,V1,V5]at jV;rw[gh];replace gh:=VZ gh;have z1z:=@ak.eq_1;refine aF ?_<;>intros;exact ol pre post p g g2 (p.leases.set i ⟨l.at_,3,0,tick+p.rule.cool⟩)
def rM (p:Pol)(ps:List Pol):List Pol:=ps.take (kH (fun x=>x.id) p.id ps)++p::ps.drop (kH (fun x=>x.id) p.id ps)
theorem MM (ps:List Pol)(p:Pol)(g:Nat)(tick:D)(h8:ps.length≤8)(hr:qu ps)(ht:tick.one=true):
 MSpec prog 160 [.ptr 0 0,.d (.agg (al p))] [.box 30 [.d tick,.own 1 g],.row 83 9 g (aa (ps.map al))] (.d (.tup [])) [.box 30 [.d tick,.own 1 (g+1)],.row 83 9 (g+1) (aa ((rM p ps).map al))]:=by
 have Mr:=qr i9 (fun x=>x.id) ps p.id 234 [] (by omega) hr (fun x _=>Ci x p.id);have hle:=r9 (fun x:Pol=>x.id) p.id ps;have O4:=Ad ps p (kH (fun x:Pol=>x.id) p.id ps) g hle (by omega);refine zt ah av func160 rfl ntmps160 results160 (by kernel_rfl) (Wa _) (by simp[af,ag]) (by simp[ay,aH,af,ag,an]) ?_;have z1z:=Ln.mk (ls:=[1]) (O4);refine aF ?_<;>intros;exact wf (hb:=bz) (hbh:=bz)
def ig (s:Ste):Int:=if bD s.book≠0 then bD s.book else if dR s.net≠0 then dR s.net else if (tv (DM s.book) s.net.vpcs&&decide (pk s.net.vpcs=(DM s.book).countP fun kv=>iY s.net.vpcs kv.2))=true then 0 else 1
theorem tK {α:Type}{enc:α→List D}(dA:∀x,(enc x).length=3)(p:α→Bool)(l:List α)(g:Nat)(caps:List D)(hl:l.length≤1000000000)(hc:∀x∈l,ae prog g (.agg (enc x)::caps) (.v (.bool (p x)))):
 ae prog 129 [.sl 3 (l.map enc),.clo g caps] (.v (.int .i64 (cY p l))):=by
 refine pj func129 ntmps129 results129 ?_;refine aF ?_<;>intros;refine cp ah av (fun m e h=>∃k:Nat,k≤l.length∧(∀x∈l.take k,p x=false)∧m=l.length - k∧e=[(8,.d (.v (.int .i64 k))),(7,.d (.v (.int .i64 l.length))),(4,.d (.v (.int .i64 0))),(1,.d (.clo g caps)),(0,.d (.sl 3 (l.map enc)))]∧h=[]) _ _ _ ⟨0,Wr _,by simp,rfl,rfl,rfl⟩ ?_ ?_
 ·exact wf (x:=[]) (hh:=rfl) (he:=⟨rfl,rfl,rfl,rfl,rfl,trivial⟩)
 ·rintro m e h ⟨k,hk,df,rfl,rfl,rfl⟩ CL kI;by_cases hlt:k < l.length
  ·obtain⟨x,hx⟩:∃x,l[k]? =some x:=⟨_,VY hlt⟩;have ej:(k:Int) < (l.length:Int):=by omega
   have ed:=wi k (by omega);have bc:=dA x;have jp:(enc x).take 3=enc x:=Wj (by omega);have gI:=hc x (V0 hx);cases hp:p x with
   |false=>
    rw[hp]at gI;refine aF ?_<;>intros;refine kI _ _ _ _ _ ?_ ⟨k+1,hlt,?_,rfl,rfl,rfl⟩ (wf (x:=[]) (hh:=rfl) (he:=⟨rfl,rfl,rfl,rfl,rfl,trivial⟩))
    ·omega
    ·intro y hy;rw[aj hx]at hy;rcases WJ.1 hy with hy|hy
     ·exact df y hy
     ·rw[WP]at hy;rw[hy];exact hp
   |true=>
    rw[hp]at gI;have jm:cY p l=k:=eJ hx hp df;exact bx;all_goals rw[jm]
    all_goals exact au.refl _
  ·obtain rfl:k=l.length:=by omega
   rw[V4]at df;refine aF ?_<;>intros;all_goals rw[eK df]
   all_goals exact au.refl _
theorem tL {α:Type}{enc:α→List D}(dA:∀x,(enc x).length=3)(p:α→Bool)(l:List α)(g:Nat)(caps:List D)(hl:l.length≤1000000000)(hc:∀x∈l,ae prog g (.agg (enc x)::caps) (.v (.bool (p x)))):
 ae prog 61 [.sl 3 (l.map enc),.clo g caps] (.v (.bool (l.any p))):=by
 have hi:=tK dA p l g caps hl hc;have mM:=eY p l;refine pj func61 ntmps61 results61 ?_;exact bx;all_goals exact au.refl _
theorem FH (v:Vpc)(o:Int):ae prog 62 [.agg (aG v),.ept [.v (.int .i64 o)]] (.v (.bool (v.id==o))):=by
 refine pj func62 ntmps62 results62 ?_;exact bx
theorem Ae (s:Ste)(hz:∀p∈s.book.pools,p.leases.length≤3518437208882):ae prog 30 [.agg (gO s)] (.v (.int .i64 (ig s))):=by
 have hb:=kq s.book hz;have hn:=tw s.net;obtain⟨R,hR⟩:∃R,R=ig s:=⟨_,rfl⟩;rw[←hR];replace hR:=VZ hR;by_cases h1:bD s.book=0
 ·rw[h1]at hb;by_cases h2:dR s.net=0
  ·rw[h2]at hn;have yb:R=if (tv (DM s.book) s.net.vpcs&&decide (pk s.net.vpcs=(DM s.book).countP fun kv=>iY s.net.vpcs kv.2))=true then 0 else 1:=by
    rw[hR.out];unfold ig;rw[if_neg (by simpa using h1),if_neg (by simpa using h2)]
   have JZ:=d7 h1;have hu:=Ln.mk (ls:=[]) (DN s.book (by have:=JZ.n8;omega) (fun p hp=>by have:=JZ.l32 p hp;omega));have T8:=KY JZ.l32;have T9:=JZ.n8;have Ua:(DM s.book).length≤256:=W6 T8 (W6 (WX 32 T9) (by decide));have df:=ic.1 h2;have SZ:=df.n6;have O5:∀v∈s.net.vpcs,v.ranges.length≤4:=fun v hv=>(bt (df.vp v hv)).n4;have QV:∀k,pk (s.net.vpcs.take k)≤24:=fun k=>W6 (KV fun v hv=>O5 v (WN hv)) (by rw[V2];omega);clear JZ T8 T9 df;generalize DM s.book=E at*;replace yb:=VZ yb;replace O5:=VZ O5;replace QV:=VZ QV;clear h1 h2 hR;have gh:=VZ (⟨SZ,Ua⟩:s.net.vpcs.length≤6∧E.length≤256);clear Ua;refine pj func30 ntmps30 results30 ?_;refine aF ?_;refine bP ah av s.net.vpcs (fun k=>tv E (s.net.vpcs.take k)=true) (fun k=>[(32,.d (.v (.int .i64 k))),(31,.d (.v (.int .i64 s.net.vpcs.length))),(30,.d (.sl 3 (s.net.vpcs.map aG))),(6,.d (.v (.int .i64 (pk (s.net.vpcs.take k):Nat)))),(5,.mref 2),(1,.ptr 0 0)])
    (fun _=>[.box 36 ((gO s).map .d),.gone,.mp 3 true E]) rfl wf ?_ ?_
   ·intro k v hv hk hI C hC;have g8:(k:Int) < (s.net.vpcs.length:Int):=by omega
    have ed:=wi k (by omega);have lN:=VZ (Ft hv);have bn:=VZ (QV.out k);have Ub:=VZ (O5.out v (V0 hv));have Uc:=VZ hv;have Va:=VZ hI;clear hI;generalize Vb:pk (s.net.vpcs.take k)=Nk at*;clear Vb;refine aF ?_;refine bP ah av v.ranges (fun j=>(v.ranges.take j).all (H3 E v.id)=true) (fun j=>[(39,.d (.v (.int .i64 j))),(38,.d (.v (.int .i64 v.ranges.length))),(37,.d (.sl 3 (v.ranges.map cf))),(8,.ptr 3 0),(6,.d (.v (.int .i64 ((Nk+j:Nat):Int)))),(32,.d (.v (.int .i64 k))),(31,.d (.v (.int .i64 s.net.vpcs.length))),(30,.d (.sl 3 (s.net.vpcs.map aG))),(5,.mref 2),(1,.ptr 0 0)])
     (fun _=>[.box 36 ((gO s).map .d),.gone,.mp 3 true E,.box 88 ((aG v).map .d)]) rfl wf ?_ ?_
    ·intro j r hr hj hJ C2 vm;have oF:(j:Int) < (v.ranges.length:Int):=by omega
     have Bc:IntKind.i64.wrap ((j:Int)+1)=((j+1:Nat):Int):=by have:=Ub.out;rw[IntKind.wrap_i64];omega
     have Vc:IntKind.i64.wrap (((Nk+j:Nat):Int)+1)=((Nk+(j+1):Nat):Int):=by have:=bn.out;have:=Ub.out;rw[IntKind.wrap_i64];omega
     have Ud:=VZ hr;have SJ:=VZ hJ;clear hJ;by_cases hq:H3 E v.id r=true
     ·have e1:((kN E [r.at_.at_,r.at_.len,r.pool]).getD 0 !=v.id)=false:=by unfold H3 at hq;simpa using hq
      have AY:=VZ hq;clear hq;refine aF ?_;exact vm _ _ (by rw[aj Ud.out,List.all_append,SJ.out];simpa using AY.out) wf
     ·have e1:((kN E [r.at_.at_,r.at_.len,r.pool]).getD 0 !=v.id)=true:=by unfold H3 at hq;simpa using hq
      have ur:R=1:=by
       rw[yb.out,if_neg];intro h;rw[Wd]at h;have h3:=Wx.1 (Wx.1 h.1 v (V0 Uc.out)) r (V0 Ud.out);exact hq h3
      rw[ur];replace hq:=VZ hq;exact bx
    ·intro hJ C2;rw[V4]at hJ;replace hJ:=VZ hJ;refine aF ?_;exact hC _ _ (by unfold tv;rw[aj Uc.out,List.all_append];have:=Va.out;unfold tv at this;rw[this];simpa using hJ.out) (wf (hh:=by rfl) (he:=by rw[lN.out];repeat' (first|exact trivial|(refine⟨rfl,?_⟩))))
   ·intro hI C;rw[V4]at hI ⊢;have S0:=VZ (by have:=QV.out s.net.vpcs.length;rw[V4]at this;exact this:pk s.net.vpcs≤24);have cz:R=if pk s.net.vpcs=E.countP fun kv=>iY s.net.vpcs kv.2 then 0 else 1:=by
     rw[yb.out,hI,Xt];simp only[decide_eq_true_eq]
    replace cz:=VZ cz;clear hI;generalize pk s.net.vpcs=Nn at*;refine aF ?_;refine ME (fun m e h=>∃(seen:List Nat) (c:Int),seen.Nodup∧(∀i∈seen,i < E.length)∧m=zW E.length seen∧c=(Nn:Int) - (seen.countP (iZ E (iY s.net.vpcs)):Nat)∧seen.length≤E.length∧e=[(58,.ptr 3 0),(6,.d (.v (.int .i64 c))),(1,.ptr 0 0)]∧h=[.box 36 ((gO s).map .d),.gone,.gone,.it 3 true E seen]) _ _ _ ⟨[],(Nn:Int),List.nodup_nil,by simp,rfl,by simp,by simp,rfl,rfl⟩ wf ?_;rintro m e h ⟨seen,c,jX,hlt,hm,hc,hle,rfl,rfl⟩ C2 vm;replace hc:=VZ hc;replace hlt:=VZ hlt;refine DC ah av (by rfl) (zy (k:=3) (x:= .tmp 58) ah (by simp) rfl rfl rfl rfl rfl rfl (by decide) (by decide) rfl rfl (by simp) ?_ ?_)
    ·intro b7;have gF:=H4 (p:=iY s.net.vpcs) jX hlt.out b7;by_cases hz:c=0
     ·have ur:R=0:=by rw[cz.out,if_pos];have:=hc.out;omega
      rw[ur];subst hz;clear gF b7 jX hm;change sC _ _ _ _ _ _ _ _ _ _;exact bx
     ·have ur:R=1:=by rw[cz.out,if_neg];have:=hc.out;omega
      have rT:(c !=0)=true:=by simpa using hz
      rw[ur];clear gF b7 jX hm;replace hz:=VZ hz;change sC _ _ _ _ _ _ _ _ _ _;exact bx
    ·intro i hi OQ;obtain⟨kv,M4⟩:∃kv,E[i]? =some kv:=⟨_,VY hi⟩;have Vd:(seen++[i]).getLast? =some i:=by simp
     have lN:=tL fM (fun v=>v.id==kv.2) s.net.vpcs 62 [.ept [.v (.int .i64 kv.2)]] (by have:=gh.out;omega) (fun v _=>FH v kv.2);have SN:=List.countP_le_length (p:=iZ E (iY s.net.vpcs)) (l:=seen);have gE:(seen++[i]).Nodup:=by rw[List.nodup_append];exact⟨jX,by simp,fun a ha b hb e=>OQ (by simp at hb;subst hb;subst e;exact ha)⟩
     have Eh:∀j∈seen++[i],j < E.length:=fun j hj=>by
      rcases WJ.1 hj with h|h
      ·exact hlt.out j h
      ·simp at h;omega
     have yj:=DO hi OQ;have bR:(seen++[i]).length≤E.length:=by
      have:=(gE.length_le_of_subset (fun j hj=>Xk.2 (Eh j hj)):(seen++[i]).length≤(WC E.length).length);simpa using this
     have uB:(seen++[i]).countP (iZ E (iY s.net.vpcs))=seen.countP (iZ E (iY s.net.vpcs))+if iY s.net.vpcs kv.2 then 1 else 0:=by
      rw[List.countP_append];simp[iZ,M4]
     by_cases hb:iY s.net.vpcs kv.2=true
     ·have lx:(s.net.vpcs.any fun v=>v.id==kv.2)=true:=hb;rw[lx]at lN;rw[if_pos hb]at uB;have Vc:IntKind.i64.wrap (c - 1)=c - 1:=by have:=hc.out;have:=S0.out;have:=gh.out;rw[IntKind.wrap_i64];omega
      have uE:c - 1=(Nn:Int) - ((seen++[i]).countP (iZ E (iY s.net.vpcs)):Nat):=by rw[uB];have:=hc.out;omega
      replace uB:=VZ uB;replace uE:=VZ uE;replace hb:=VZ hb;clear lx;replace gE:=VZ gE;replace Eh:=VZ Eh;replace yj:=VZ yj;replace bR:=VZ bR;change sC _ _ _ _ _ _ _ _ _ _;refine aF ?_;exact vm _ _ _ _ _ (by rw[hm];exact yj.out) ⟨_,_,gE.out,Eh.out,rfl,uE.out,bR.out,rfl,rfl⟩ wf
     ·have lx:(s.net.vpcs.any fun v=>v.id==kv.2)=false:=by simpa[iY]using hb
      rw[lx]at lN;rw[if_neg hb]at uB;have uE:c=(Nn:Int) - ((seen++[i]).countP (iZ E (iY s.net.vpcs)):Nat):=by rw[uB];have:=hc.out;omega
      replace uB:=VZ uB;replace uE:=VZ uE;replace hb:=VZ hb;clear lx;replace gE:=VZ gE;replace Eh:=VZ Eh;replace yj:=VZ yj;replace bR:=VZ bR;change sC _ _ _ _ _ _ _ _ _ _;refine aF ?_;exact vm _ _ _ _ _ (by rw[hm];exact yj.out) ⟨_,_,gE.out,Eh.out,rfl,uE.out,bR.out,rfl,rfl⟩ wf
  ·have e2:(dR s.net !=0)=true:=by simpa using h2
   have yb:R=dR s.net:=by rw[hR.out];unfold ig;rw[if_neg (by simpa using h1),if_pos h2]
   rw[yb];generalize dR s.net=X at*;refine pj func30 ntmps30 results30 ?_;exact bx
 ·have e2:(bD s.book !=0)=true:=by simpa using h1
  have yb:R=bD s.book:=by rw[hR.out];unfold ig;rw[if_pos h1]
  rw[yb];generalize bD s.book=X at*;refine pj func30 ntmps30 results30 ?_;exact bx
def Bok.zero:Bok:=⟨0,[]⟩
theorem fC {b:Bok}{id:Int}{q:Pol}(h:cH b id=some q):∃i:Nat,b.pools[i]? =some q∧q.id=id:=by
 have h1:=List.find?_some h;have h2:=Yp h;obtain⟨i,hi,rfl⟩:=W9.1 h2;exact⟨i,VY hi,by simpa using h1⟩
theorem iC {b:Bok}{id:Int}{q:Pol}(h:cH b id=some q):∃pre post,b.pools=pre++q::post∧q.id=id:=by
 obtain⟨i,hi,he⟩:=fC h;obtain⟨hlt,rfl⟩:=V3.1 hi;exact⟨b.pools.take i,b.pools.drop (i+1),by rw[List.getElem_cons_drop,XE],he⟩
def pq (b:Bok)(id:Int)(root:Pfx)(r:Rul):Int:=
 if gU id=false∨chk root.at_ root.len≠0 then 3 else
 if (cH b id).isSome=true∨(b.pools.any fun p=>(p.up==0)&&p.root.meets root)=true then 6 else
 if i7 r root.len=false then 1 else if b.pools.length=8 then 2 else 0
def gX (b:Bok)(id:Int)(root:Pfx)(r:Rul):Bok × Int:=
 if bD b≠0 then (Bok.zero,bD b)else if pq b id root r≠0 then (Bok.zero,pq b id root r)else (⟨b.tick,rM ⟨id,0,root,r,[]⟩ b.pools⟩,0)
theorem Lb (p:Pol)(root:Pfx):ae prog 159 [.agg (al p),.ept (aL root)] (.v (.bool ((p.up==0)&&p.root.meets root))):=by
 have hm:=m4 p.root root;refine pj func159 ntmps159 results159 ?_;exact bx
theorem NW (b:Bok)(id:Int)(root:Pfx)(r:Rul)(hz:∀p∈b.pools,p.leases.length≤3518437208882):ae prog 92 [.agg (bC b),.v (.int .i64 id),.agg (aL root),.agg (zi r)] (.tup [.agg (bC (gX b id root r).1),.v (.int .i64 (gX b id root r).2)]):=by
 by_cases hc:bD b=0
 ·have cR:=d7 hc;have ci:=gA b hz hc;have hid:=wt id;have bn:=m3 root;have lN:=Fy i9 (fun p=>(p.up==0)&&p.root.meets root) b.pools 159 [.ept (aL root)] (by have:=cR.n8;omega) (fun p _=>Lb p root);have Nd:=Cg r root;have Ps:=(MM b.pools ⟨id,0,root,r,[]⟩ b.pools.length (.v (.int .i64 b.tick)) cR.n8 cR.rise rfl).lep (args':=[.ptr 0 0,.d (.agg [.v (.int .i64 id),.v (.int .i64 0),.v (.int .i64 root.at_),.v (.int .i64 root.len),.v (.int .i64 r.min),.v (.int .i64 r.max),.v (.int .i64 r.usual),.v (.int .i64 r.cool),.v (.slice none 0 0)])]) ⟨.inl rfl,.inr ⟨_,_,rfl,rfl,dg⟩,trivial⟩ rfl;obtain⟨R,hR⟩:∃R,R=gX b id root r:=⟨_,rfl⟩;rw[←hR];replace hR:=VZ hR;cases hq:cH b id with
  |none=>
   have hf:=kY b id (by have:=cR.n8;omega) cR.rise;unfold my at hf;rw[hq]at hf;refine pj func92 ntmps92 results92 ?_;have z1z:=Ln.mk (ls:=[]) (ci);have z2z:=Lm.mk (Ln.mk (ls:=[6,7]) (Ps));refine rK ?_ ?_ ?_ ?_ ?_ ?_ ?_ ?_<;>first|(with_reducible exact True.intro)|intros
   all_goals clear hf hid bn lN Nd ci Ps hz
   all_goals first
    |(rw[show R=(Bok.zero,3) from (by rw[hR.out];unfold gX pq;grind)];(try simp only[V6,V1]);exact dg)
    |(rw[show R=(Bok.zero,6) from (by rw[hR.out];unfold gX pq;grind)];(try simp only[V6,V1]);exact dg)
    |(rw[show R=(Bok.zero,1) from (by rw[hR.out];unfold gX pq;grind)];(try simp only[V6,V1]);exact dg)
    |(rw[show R=(Bok.zero,2) from (by rw[hR.out];unfold gX pq;grind)];(try simp only[V6,V1]);exact dg)
    |(rw[show R=(⟨b.tick,rM ⟨id,0,root,r,[]⟩ b.pools⟩,0) from (by rw[hR.out];unfold gX pq;grind)];(try simp only[V6,V1]);exact dg)
  |some q=>
   obtain⟨i,Pt,rfl⟩:=fC hq;have hf:=xF b i q b.pools.length (aa (b.pools.map al)) [] (.d (.v (.int .i64 b.tick))) Pt cR.rise cR.n8 (by simp[aA]) (dF _ _ _) (an _ _) rfl rfl;replace Pt:=VZ Pt;refine pj func92 ntmps92 results92 ?_;have z1z:=Ln.mk (ls:=[]) (ci);have z2z:=Ln.mk (ls:=[6,7]) (hf);refine Pg ?_ ?_ ?_<;>intros;all_goals clear hf hid bn lN Nd ci Ps hz
   all_goals first
    |(rw[show R=(Bok.zero,3) from (by rw[hR.out];unfold gX pq;grind)];(try simp only[V6,V1]);exact dg)
    |(rw[show R=(Bok.zero,6) from (by rw[hR.out];unfold gX pq;grind)];(try simp only[V6,V1]);exact dg)
 ·have ci:=kz b hz hc;have hr:gX b id root r=(Bok.zero,bD b):=by unfold gX;rw[if_pos hc]
  have h1:(bD b !=0)=true:=by simpa using hc
  rw[hr];replace hr:=VZ hr;refine pj func92 ntmps92 results92 ?_;refine aF ?_<;>intros;exact dg
theorem om (f:PV→Option D):∀(l m:List (List PV)),cy f (l++m)=match cy f l,cy f m with|some a,some b=>some (a++b)|_,_=>none
 |[],m=>by simp only[WO,cy];cases cy f m<;>rfl
 |r::l,m=>by
  simp only[WH,cy,om f l m];cases bW f r<;>cases cy f l<;>cases cy f m<;>rfl
@[go_sem] theorem eN (h:Nat→Chunk)(n:Nat)(pre:List Pol)(r:List PV)(post:List Pol):cy (aO h n) (d6 pre r post)=match bW (aO h n) r with|some d=>some (pre.map al++d::post.map al)|none=>none:=by
 simp only[d6,om,cy,dF];cases bW (aO h n) r<;>rfl
theorem tM {p:Pol}(h:iz p.root (e9 p)=0):p.leases.Pairwise fun a b=>a.at_.at_ < b.at_.at_:=by
 obtain⟨h1,h2,h3,h4⟩:=xB.1 h;unfold e9 at h3 h4;rw[YF]at h4;refine h4.imp_of_mem fun {a b} ha hb nf=>?_;have hr:=(xt.1 (h3 a.at_ (Wp.2 ⟨a,ha,rfl⟩))).1;have:=Pfx.hi_bd hr;unfold If at nf;omega
def rN (b:Bok)(id:Int)(f:Pol→Pol):Bok:=⟨b.tick,b.pools.map fun q=>if q.id==id then f q else q⟩
theorem lc {b:Bok}{pre post:List Pol}{p:Pol}(hr:qu b.pools)(h:b.pools=pre++p::post)(f:Pol→Pol):rN b p.id f=⟨b.tick,pre++f p::post⟩:=by
 unfold rN;rw[h];have hr':=hr;rw[h]at hr';obtain⟨h1,h2,h3⟩:=X3.1 hr';rw[Xz]at h2;have e1:pre.map (fun q=>if q.id==p.id then f q else q)=pre:=by
  conv=>rhs;rw[←List.map_id pre]
  refine Xr fun q hq=>?_;have:=h3 q hq p (by simp);rw[if_neg (by simp;omega)];rfl
 have e2:post.map (fun q=>if q.id==p.id then f q else q)=post:=by
  conv=>rhs;rw[←List.map_id post]
  refine Xr fun q hq=>?_;have:=h2.1 q hq;rw[if_neg (by simp;omega)];rfl
 rw[V6,V1,e1,e2];simp
def eR (b:Bok)(id size owner:Int):Bok × Pfx × Int:=
 if bD b≠0 then (Bok.zero,Pfx.zero,bD b)else
 match cH b id with
 |none=>(Bok.zero,Pfx.zero,5)
 |some p=>
  if gU owner=false then (Bok.zero,Pfx.zero,3)else
  let f:=cP p (if size=0 then p.rule.usual else size)
  if f.2≠0 then (Bok.zero,Pfx.zero,f.2)else (rN b id fun p=>{p with leases:=oh ⟨f.1,1,owner,0⟩ p.leases},f.1,0)
theorem Il (b:Bok)(id size owner:Int)(hz:∀p∈b.pools,p.leases.length≤3518437208882):ae prog 97 [.agg (bC b),.v (.int .i64 id),.v (.int .i64 size),.v (.int .i64 owner)] (.tup [.agg (bC (eR b id size owner).1),.agg (aL (eR b id size owner).2.1),.v (.int .i64 (eR b id size owner).2.2)]):=by
 obtain⟨R,hR⟩:∃R,R=eR b id size owner:=⟨_,rfl⟩;rw[←hR];replace hR:=VZ hR;by_cases hc:bD b=0
 ·have cR:=d7 hc;have hid:=wt owner;cases hq:cH b id with
  |none=>
   have ci:=gA b hz hc;have hf:=kY b id (by have:=cR.n8;omega) cR.rise;unfold my at hf;rw[hq]at hf;replace hc:=VZ hc;replace hq:=VZ hq;refine pj func97 ntmps97 results97 ?_;have z1z:=Ln.mk (ls:=[]) (ci);refine aF ?_<;>intros;rw[show R=(Bok.zero,Pfx.zero,5) from (by rw[hR.out];unfold eR;rw[if_neg (by simpa using hc.out),hq.out])];exact dg
  |some p=>
   obtain⟨pre,post,hp,rfl⟩:=iC hq;have ci:=pp b pre post p hp hz hc;have C8:p∈b.pools:=by rw[hp];simp
   have Gx:b.pools[pre.length]? =some p:=by rw[hp,Wq (Wa _),Xy];rfl
   have qK:=cR.l32 p C8;have QW:cy (aO (aw [.box 30 [.d (.v (.int .i64 b.tick)),.own 1 b.pools.length],.row 83 9 b.pools.length (d6 pre (ak p (.own 2 1)) post),.row 96 5 1 (aa (p.leases.map aW))]) 5) (d6 pre (ak p (.own 2 1)) post)=some (b.pools.map al):=by
    rw[hp];simp only[eN,ak,bW,aO,aw,dF,if_true,WQ,V6,V1];rfl
   have hf:=xF b pre.length p b.pools.length (d6 pre (ak p (.own 2 1)) post) [.row 96 5 1 (aa (p.leases.map aW))] (.d (.v (.int .i64 b.tick))) Gx cR.rise cR.n8 (by rw[tJ,hp];simp;omega) QW (by rw[fp];rfl) (by simp only[ay,aH,an,WW]) rfl;have JH:=fun s=>MK p s qK;have Mv:=fun l=>ML pre post p l b.pools.length 1 qK (tM (cR.mem p C8).2.1);have lL:=fun f=>lc cR.rise hp f;have cz:R=if gU owner=false then (Bok.zero,Pfx.zero,3)else if (cP p (if size=0 then p.rule.usual else size)).2≠0 then (Bok.zero,Pfx.zero,(cP p (if size=0 then p.rule.usual else size)).2)else
    (⟨b.tick,pre++{p with leases:=oh ⟨(cP p (if size=0 then p.rule.usual else size)).1,1,owner,0⟩ p.leases}::post⟩,(cP p (if size=0 then p.rule.usual else size)).1,0):=by
    rw[hR.out];unfold eR;rw[if_neg (by simpa using hc),hq];simp only;rw[lL]
   replace cz:=VZ cz;replace hc:=VZ hc;replace hq:=VZ hq;replace hp:=VZ hp;replace Gx:=VZ Gx;replace lL:=VZ lL;clear QW C8;cases h0:size==0 with
   |true=>
    have e0:size=0:=by simpa using h0
    have cz:=cz.out;rw[if_pos e0]at cz;replace cz:=VZ cz;replace e0:=VZ e0;have CY:=Mv ⟨(cP p p.rule.usual).1,1,owner,0⟩;have JI:=JH p.rule.usual;clear Mv JH;refine pj func97 ntmps97 results97 ?_;repeat' (first|(with_reducible refine And.intro ?_ ?_)|(with_reducible refine dw (fun _=>?_) (fun _=>?_))|(with_reducible refine aQ (fun _=>?_) (fun _=>?_))|(with_reducible refine bT (by kernel_rfl))|simp -dsimp only[go_sem,seval, *,bC,aL,aW,ak,aB,dL,eN,h0]|((with_reducible refine bU ?_);simp -dsimp only[go_sem,seval,bC,aL,aW,ak,aB,dL,eN,h0];first|refine aS (by first|assumption|exact hid|exact JI) (by first|exact .inl rfl|exact .inr rfl) ?_|(refine aR (by assumption) ?_ ?_ ?_;(solve|(repeat(first|exact au.refl _|exact au.nil _|(refine au.tup ?_)|(refine au.agg ?_ rfl)|exact trivial|(refine And.intro ?_ ?_))));(solve|exact .inl rfl|exact .inr rfl)))|(refine dX [] (ci) ?_ ?_ ?_ ?_ ?_ ?_;(solve|rfl|simp only[go_sem,seval,bC,ak,aB]);(solve|rfl);(solve|decide);(solve|simp);(solve|simp only[go_sem,seval,aX,bC,ak,aB]))|(refine dX [5,6,8] (hf) ?_ ?_ ?_ ?_ ?_ ?_;(solve|rfl|simp only[go_sem,seval,aL,ak,aB]);(solve|rfl);(solve|decide);(solve|simp);(solve|simp only[go_sem,seval,aX,aL,ak,aB]))|(refine dX [6,8] (CY) ?_ ?_ ?_ ?_ ?_ ?_;(solve|rfl|simp only[go_sem,seval,aL,aW,ak,aB]);(solve|rfl);(solve|decide);(solve|simp);(solve|simp only[go_sem,seval,aX,aL,aW,ak,aB]))|omega|exact decide_eq_true (by omega)|exact au.refl _)
    all_goals clear hf hid JI CY ci hz
    all_goals first
     |(rw[show R=(Bok.zero,Pfx.zero,3) from (by rw[cz.out];grind)];(try simp only[V6,V1]);exact dg)
     |(rw[show R=(Bok.zero,Pfx.zero,(cP p p.rule.usual).2) from (by rw[cz.out];grind)];(try simp only[V6,V1]);exact dg)
     |(rw[show R=(⟨b.tick,pre++{p with leases:=oh ⟨(cP p p.rule.usual).1,1,owner,0⟩ p.leases}::post⟩,(cP p p.rule.usual).1,0) from (by rw[cz.out];grind)];(try simp only[V6,V1]);exact dg)
   |false=>
    have e0:¬size=0:=by simpa using h0
    have cz:=cz.out;rw[if_neg e0]at cz;replace cz:=VZ cz;replace e0:=VZ e0;have CY:=Mv ⟨(cP p size).1,1,owner,0⟩;have JI:=JH size;clear Mv JH;refine pj func97 ntmps97 results97 ?_;repeat' (first|(with_reducible refine And.intro ?_ ?_)|(with_reducible refine dw (fun _=>?_) (fun _=>?_))|(with_reducible refine aQ (fun _=>?_) (fun _=>?_))|(with_reducible refine bT (by kernel_rfl))|simp -dsimp only[go_sem,seval, *,bC,aL,aW,ak,aB,dL,eN,h0]|((with_reducible refine bU ?_);simp -dsimp only[go_sem,seval,bC,aL,aW,ak,aB,dL,eN,h0];first|refine aS (by first|assumption|exact hid|exact JI) (by first|exact .inl rfl|exact .inr rfl) ?_|(refine aR (by assumption) ?_ ?_ ?_;(solve|(repeat(first|exact au.refl _|exact au.nil _|(refine au.tup ?_)|(refine au.agg ?_ rfl)|exact trivial|(refine And.intro ?_ ?_))));(solve|exact .inl rfl|exact .inr rfl)))|(refine dX [] (ci) ?_ ?_ ?_ ?_ ?_ ?_;(solve|rfl|simp only[go_sem,seval,bC,ak,aB]);(solve|rfl);(solve|decide);(solve|simp);(solve|simp only[go_sem,seval,aX,bC,ak,aB]))|(refine dX [5,6,8] (hf) ?_ ?_ ?_ ?_ ?_ ?_;(solve|rfl|simp only[go_sem,seval,aL,ak,aB]);(solve|rfl);(solve|decide);(solve|simp);(solve|simp only[go_sem,seval,aX,aL,ak,aB]))|(refine dX [6,8] (CY) ?_ ?_ ?_ ?_ ?_ ?_;(solve|rfl|simp only[go_sem,seval,aL,aW,ak,aB]);(solve|rfl);(solve|decide);(solve|simp);(solve|simp only[go_sem,seval,aX,aL,aW,ak,aB]))|omega|exact decide_eq_true (by omega)|exact au.refl _)
    all_goals clear hf hid JI CY ci hz
    all_goals first
     |(rw[show R=(Bok.zero,Pfx.zero,3) from (by rw[cz.out];grind)];(try simp only[V6,V1]);exact dg)
     |(rw[show R=(Bok.zero,Pfx.zero,(cP p size).2) from (by rw[cz.out];grind)];(try simp only[V6,V1]);exact dg)
     |(rw[show R=(⟨b.tick,pre++{p with leases:=oh ⟨(cP p size).1,1,owner,0⟩ p.leases}::post⟩,(cP p size).1,0) from (by rw[cz.out];grind)];(try simp only[V6,V1]);exact dg)
 ·have ci:=kz b hz hc;have h1:(bD b !=0)=true:=by simpa using hc
  have hr:R=(Bok.zero,Pfx.zero,bD b):=by rw[hR.out];unfold eR;rw[if_pos hc]
  rw[hr];replace hr:=VZ hr;refine pj func97 ntmps97 results97 ?_;refine aF ?_<;>intros;exact dg
end Go.Proofs.YtojojebildofnaaGreatDoor
