/- Texts of this work, joined. -/
import Derived.Test.YtmicljipaiohkaaGreatZHRestSites4
import Derived.SizedLaws
set_option linter.unusedSimpArgs false
set_option linter.unusedVariables false
set_option maxRecDepth 100000
set_option maxHeartbeats 16000000
namespace Go.Proofs.YtmicljipaiohkaaGreat
open Go Go.RowKit Go.Proofs.Tryz
open Go.Lib renaming hid → Xi
open _root_.List renaming getElem?_eq_getElem → Xj, mem_of_getElem? → Xk, map_cons → Xl, getElem?_eq_some_iff → Xm, map_append → Xn, length_take → Xo, map_nil → Xp, take_length → Xq, getElem?_map → Xr, length_map → Xs, length_cons → XC, all_eq_true → XD, mem_map → XF, pairwise_iff_getElem → XH, getElem?_append_right → XI, getD_eq_getElem?_getD → XJ, findIdx?_eq_some_iff_getElem → XK, take_of_length_le → XM, getElem?_eq_none → XN, length_drop → XO, getElem?_take_of_lt → XP, setIfInBounds_toArray → XQ, any_eq_true → XR, replicate → XS, set_cons_zero → XT, length_append → XV, getElem?_append_left → XW, length_nil → XX, mem_cons → XY, mem_iff_getElem → XZ, mem_append → X0, set_cons_succ → X2, append_assoc → X3, range → X4, cons_append → X5, getElem_of_mem → X7, nil_append → X8, eq_nil_of_length_eq_zero → X9, mem_singleton → Yc, mem_of_mem_drop → Yd, take → Ye, mem_of_mem_take → Yf, ext_getElem? → Yg, any_eq_false → Yh, getElem?_drop → Yk, getElem_mem → Yl, take_append_of_le_length → Ym, findIdx?_eq_none_iff → Yn, find?_eq_none → Yr, set_append_right → Yu, append_nil → Yv, getElem?_cons_succ → Yw, pairwise_cons → YA, mem_of_find?_eq_some → YC, size_toArray → YF, eraseIdx_eq_take_drop_succ → YG, foldl_cons → YK, drop_eq_getElem_cons → YN, mem_range → YO, mem_cons_of_mem → YP, pairwise_append → YQ, length_set → YS, filter_append → YT, take_append_drop → YV, filter_eq_self → YY, toList_toArray → YZ, map_congr_left → Y0, all_eq_false → Y2, pairwise_map → Y3, mem_or_eq_of_mem_set → Y4, drop_length → Y6, mem_map_of_mem → Y7, length_filter_le → Y8, mem_iff_getElem? → Zd, find?_some → Zg, filter_filter → Zh, getElem?_take → Zi, length → Zm, foldl_append → Zo, filter_eq_nil_iff → Zp, flatMap_append → Zu, mem_filter → Zv, filter_cons → Zw, getElem_take → ZD, take_succ_cons → ZF, contains_iff_mem → ZO, all_append → ZR, mem_append_left → ZS, map_set → ZU, map_flatten → Z1, getElem?_replicate → Z2, mem_flatMap → Z3, map_map → Z4, not_of_lt_findIdx → Z5, getElem_cons_drop → Z6, filter_congr → Z9, take_zero → p', findIdx_getElem → z', getElem?_set_ne → C', length_eraseIdx → D', mem_cons_self → P', nodup_append → Z', mem_toArray → _m, map_toArray → _p, drop → _s
open Go.World renaming size_alloc → Xt, heap_drewN → Xu, size_drew → Xy, cell? → YL, cell?_of_block → Zk, setRow → ZH
open _root_.Bool renaming and_eq_true → Xv, eq_iff_iff → Yi, true_and → Yp, and_self → Yq, and_true → Yx, false_eq_true → Yz, eq_false_iff → YB, or_eq_false_iff → Zl, not_eq_true' → Zq, not_eq_true → ZM, and_eq_false_iff → ZN, false_or → ZY, not_true → Z7, and_assoc → _b
open _root_.Nat renaming zero_add → Xw, reduceEqDiff → Xx, reduceAdd → Xz, le_refl → XA, zero_le → XE, add_zero → XG, lt_or_ge → XL, lt_of_lt_of_le → Ya, le_trans → Yj, mul_le_mul_right → Yt, not_lt_zero → Yy, sub_self → YE, le_of_eq → YW, lt_trichotomy → Y9, sub_zero → Zs, min_self → Zt, eq_zero_or_pos → Zx, add_assoc → ZI, min → ZP, reduceLT → ZV, not_lt → ZX, min_def → B', le_of_lt → G', lt_or_gt_of_ne → V', one_le_two_pow → _i
open _root_.Option renaming map_eq_some_iff → XB, some → XU, map_some → Yb, getD_some → YD, isSome_some → YI, bind_some → Y5, isSome_none → Za, isSome_iff_exists → Ze, map_none → Zf, toList_some → _j
open _root_.Array renaming getElem?_toList → X6, getElem?_eq_some_iff → Yo, getElem?_eq_none → YJ, replicate → Y1, mem_of_getElem? → Z8, toList_map → F', toArray_toList → _f, range → _k
open _root_.Int renaming dvd_of_emod_eq_zero → YH, lt_irrefl → Zz, emod_eq_zero_of_dvd → ZE, le_refl → ZJ, toNat_of_nonneg → Z0, fdiv_eq_ediv_of_nonneg → A', dvd_trans → N'
open _root_.Function renaming comp → _l
theorem a4s {p:Prop}(h:p:=by
 rw[gM.out];clear hC hi iV TA Al hz gM hm hr ht SU;unfold dZ dC;grind):p:=h
def km (b:Bok)(k:Nat):List Pfx:=((b.pools.take k).filter (fun p=>p.up==0)).map (·.root)
theorem EY {b:Bok}{k:Nat}{p:Pol}(hp:b.pools[k]? =some p):km b (k+1)=if p.up==0 then km b k++[p.root]else km b k:=by
 unfold km;rw[aj hp,YT,Xn];cases h:p.up==0<;>simp[h]
theorem yw {b:Bok}{k:Nat}{r:Pfx}(hk:k<=b.pools.length):(km b k).any r.meets=true↔∃(j:Nat) (q:Pol),j < k/\b.pools[j]? =some q/\(q.up==0)=true/\r.meets q.root=true:=by
 unfold km;rw[List.any_map,List.any_filter,XR];constructor
 ·rintro⟨q,hq,h⟩;obtain⟨j,hj,rfl⟩:=XZ.1 hq;simp only[Xo]at hj;simp only[Xv,_l]at h;exact⟨j,_,by omega,Xj aa,by simpa using h.1,by simpa using h.2⟩
 ·rintro⟨j,q,hj,hq,h1,h2⟩;refine⟨q,Xk (i:=j) ?_,by simp only[Xv,_l];exact⟨h1,h2⟩⟩;rw[XP hj,hq]
theorem EZ {b:Bok}{k:Nat}{p:Pol}(hp:b.pools[k]? =some p):dG b (b.pools.drop k) (km b k)=((kM b b.pools.length p&&p.leases.all (fg b p))&&(!((p.up==0)&&(km b k).any p.root.meets)&&dG b (b.pools.drop (k+1)) (km b (k+1)))):=by
 rw[kg hp,EY hp];simp only[dG];cases h:p.up==0<;>simp
theorem il [Flo](b:Bok)(hz:∀p∈b.pools,p.leases.length<=3518437208882):ai prog 37 [.agg (bj b)] (.v (.int .i64 (bn b))):=by
 have SU:=eJ b.tick 0 1073741824;by_cases h8:b.pools.length>8
 ·have h8I:decide ((b.pools.length:Int)>8)=true:=aN;have hr:bn b=2:=by simp[bn,h8]
  rw[hr];refine pj func37 ntmps37 results37 ?_;exact aY
 ·have h8I:decide ((b.pools.length:Int)>8)=false:=aN;by_cases iV:b.tick < 0\/b.tick>1073741824
  ·have hr:bn b=1:=by simp[bn,h8,iV]
   have hd:(decide (0<=b.tick)&&decide (b.tick<=1073741824))=false:=by
    rcases iV with h|h
    ·simp;omega
    ·simp;omega
   rw[hr];rw[hd]at SU;replace hr:=Xi hr;refine pj func37 ntmps37 results37 ?_;exact aY
  ·have ht:0<=b.tick/\b.tick<=1073741824:=aa;have hd:(decide (0<=b.tick)&&decide (b.tick<=1073741824))=true:=aN;rw[hd]at SU;have hr:bn b=if eo 0 b.pools&&dG b b.pools []then 0 else 1:=by simp only[bn,h8,iV,if_false]
   rw[hr];replace hr:=Xi hr;replace ht:=Xi ht;replace hd:=Xi hd;refine pj func37 ntmps37 results37 ?_;refine aq ?_<;>intros;refine bL ag am (fun m e h=>∃(k:Nat) (last:Int),k<=b.pools.length/\eo 0 b.pools=eo last (b.pools.drop k)/\(k=0->last=0)/\(∀j,k=j+1->∃q,b.pools[j]? =some q/\q.id=last)/\m=b.pools.length - k/\e=[(3,.d (.v (.int .i64 k))),(2,.d (.v (.int .i64 0))),(1,.ptr 0 0)]/\
    h=[.box 24 ((bj b).map .d)]) _ _ _ ⟨0,0,XE _,rfl,fun _=>rfl,fun j h=>by omega,rfl,rfl,rfl⟩ (wf) ?_
   rintro m e h ⟨k,last,hk,gM,qR,U8,hm,rfl,rfl⟩ C hC;by_cases hlt:k < b.pools.length
   ·have fy:(k:Int) < (b.pools.length:Int):=aa;have cX:=wi k aa;obtain⟨p,hp⟩:∃p,b.pools[k]? =some p:=⟨_,Xj hlt⟩;have p5:p∈b.pools:=Xk hp;rw[kg hp]at gM;simp only[eo]at gM;have hi:=eJ p.id 1 65536;have iV:=Bi p (hz p p5);have TA:=Cl p.root (dC p);unfold dC at TA;have Al:=rH p.rule p.root;replace gM:=Xi gM;replace hm:=Xi hm;rcases Zx k with hk0|hk0
    ·have hkg:decide ((k:Int)>0)=false:=aN;have qR:=Xi (qR hk0);replace hk0:=Xi hk0;clear U8;refine fl ?_ ?_ ?_ ?_ ?_ ?_ ?_ ?_<;>first|(with_reducible exact True.intro)|intros
     all_goals have qR:=qR.out
     all_goals first
      |(refine hC _ _ _ _ _ ?_ ⟨k+1,p.id,hlt,?_,fun h=>by omega,fun j h=>⟨p,by rw[show j=k by omega];exact hp,rfl⟩,rfl,rfl,rfl⟩ (wf);(have:=hm.out;omega);(rw[gM.out];clear hC hi iV TA Al hz gM hm hr ht SU;unfold dZ dC;grind))
      |exact vA (by
       have hf:eo 0 b.pools=false:=a4s
       rw[hf];rfl)
    ·have hkg:decide ((k:Int)>0)=true:=aN;obtain⟨j,hj⟩:∃j,k=j+1:=⟨k - 1,by omega⟩;obtain⟨q,hq,uL⟩:=U8 j hj;have mW:IntKind.i64.wrap ((k:Int) - 1)=(j:Int):=by rw[IntKind.wrap_i64];omega
     replace uL:=Xi uL;replace hj:=Xi hj;replace hk0:=Xi hk0;clear qR U8;refine fl ?_ ?_ ?_ ?_ ?_ ?_ ?_ ?_<;>first|(with_reducible exact True.intro)|intros
     all_goals have uL:=uL.out
     all_goals first
      |(refine hC _ _ _ _ _ ?_ ⟨k+1,p.id,hlt,?_,fun h=>by omega,fun j h=>⟨p,by rw[show j=k by omega];exact hp,rfl⟩,rfl,rfl,rfl⟩ (wf);(have:=hm.out;omega);(rw[gM.out];clear hC hi iV TA Al hz gM hm hr ht SU;unfold dZ dC;grind))
      |exact vA (by
       have hf:eo 0 b.pools=false:=a4s
       rw[hf];rfl)
   ·obtain rfl:k=b.pools.length:=aa;rw[Y6]at gM;have hf:eo 0 b.pools=true:=by rw[gM];rfl
    obtain⟨PD,-⟩:=lw _ _ hf;have gA:=mJ _ _ hf;have nP:∀p∈b.pools,p.leases.length<=32:=fun p hp=>a3J
    rw[hf];replace hf:=Xi hf;replace gA:=Xi gA;clear gM hm qR U8 hC;refine aq ?_<;>intros;refine so ag am b.pools.length (fun k=>dG b b.pools []=dG b (b.pools.drop k) (km b k)) (fun k=>[(5,.d (.v (.int .i64 k))),(2,.d (.v (.int .i64 0))),(1,.ptr 0 0)]) (fun _=>[.box 24 ((bj b).map .d)]) rfl (wf) ?_ ?_
    ·intro k hlt hI C hC;have fy:(k:Int) < (b.pools.length:Int):=aa;have cX:=wi k aa;obtain⟨p,hp⟩:∃p,b.pools[k]? =some p:=⟨_,Xj hlt⟩;have p5:p∈b.pools:=Xk hp;rw[EZ hp]at hI;have gM:=Ot b p aa (fun q hq=>by have:=nP q hq;omega);have gz:=nP p p5;replace hI:=Xi hI;refine zk ?_ ?_<;>intros
     ·rename_i hu;refine bq ag am p.leases (fun j=>∀i (l:Lse),i < j->p.leases[i]? =some l->fg b p l=true) (fun j=>[(7,.d (.v (.int .i64 j))),(6,.ptr 1 0),(5,.d (.v (.int .i64 k))),(2,.d (.v (.int .i64 0))),(1,.ptr 0 0)]) (fun _=>[.box 24 ((bj b).map .d),.box 62 ((al p).map .d)]) (fun i l h=>absurd h (Yy _)) (wf) ?_ ?_
      ·intro j l qt hj Vx C hC;have lh:(j:Int) < (p.leases.length:Int):=aa;have mW:=wi j aa;have hlf:=EW b p l aa ht.out;replace Vx:=Xi Vx;refine zk ?_ ?_<;>intros
       ·rename_i jr;refine hC _ _ (fun i l' hi hl'=>?_) (wf);rcases XL i j with h|h
        ·exact Vx.out i l' h hl'
        ·obtain rfl:i=j:=aa;rw[qt]at hl';obtain rfl:=XU.inj hl';exact jr
       ·rename_i jr;refine vA ?_;have bO:p.leases.all (fg b p)=false:=by
         rw[Y2];exact⟨l,Xk qt,by rw[jr];simp⟩
        rw[hI.out,bO];simp
      ·intro Vx C1;have bO:p.leases.all (fg b p)=true:=by
        rw[XD];intro l hl;obtain⟨i,hi,rfl⟩:=XZ.1 hl;exact Vx i _ hi (Xj hi)
       replace Vx:=Xi Vx;replace bO:=Xi bO;refine aq ?_<;>intros;refine so ag am k (fun j=>∀i (q:Pol),i < j->b.pools[i]? =some q->((p.up==0)&&(q.up==0)&&p.root.meets q.root)=false) (fun j=>[(8,.d (.v (.int .i64 j))),(6,.ptr 1 0),(5,.d (.v (.int .i64 k))),(2,.d (.v (.int .i64 0))),(1,.ptr 0 0)]) (fun _=>[.box 24 ((bj b).map .d),.box 62 ((al p).map .d)]) (fun i l h=>absurd h (Yy _)) (wf) ?_ ?_
       ·intro j hj Vy C hC;have lh:(j:Int) < (k:Int):=aa;have mW:=wi j aa;obtain⟨q,hq⟩:∃q,b.pools[j]? =some q:=⟨_,Xj aa⟩;have o0:=rl p.root q.root;rw[fI]at o0;replace Vy:=Xi Vy;have key:∀t,((p.up==0)&&(q.up==0)&&p.root.meets q.root)=t->t=false->∀i (q:Pol),i < j+1->b.pools[i]? =some q->((p.up==0)&&(q.up==0)&&p.root.meets q.root)=false:=by
         intro t h1 h2 i q' hi hq';rcases XL i j with h|h
         ·exact Vy.out i q' h hq'
         ·obtain rfl:i=j:=aa;rw[hq]at hq';obtain rfl:=XU.inj hq';rw[h1,h2]
        have bad:((p.up==0)&&(q.up==0)&&p.root.meets q.root)=true->dG b b.pools []=false:=fun h=>by
         simp only[Xv]at h;have:(km b k).any p.root.meets=true:=(yw aa).2 ⟨j,q,hj,hq,h.1.2,h.2⟩;rw[hI.out,this,h.1.1];simp
        replace key:=Xi key;replace bad:=Xi bad;refine fl ?_ ?_ ?_ ?_ ?_ ?_ ?_ ?_<;>first|(with_reducible exact True.intro)|intros
        all_goals first
         |(refine hC _ _ (key.out _ ?_ rfl) (wf);clear hC o0;grind)
         |exact vA (by rw[bad.out (by clear hC o0;grind)];simp)
       ·intro Vy C1;have bQ:((p.up==0)&&(km b k).any p.root.meets)=false:=by
         cases h:p.up==0 with
         |false=>rfl
         |true=>
          cases h2:(km b k).any p.root.meets with
          |false=>rfl
          |true=>
           obtain⟨i,q,hi,hq,h3,h4⟩:=(yw aa).1 h2;have:=Vy i q hi hq;rw[h,h3,h4]at this;exact absurd this ak
        replace Vy:=Xi Vy;replace bQ:=Xi bQ;refine aq ?_<;>intros;refine hC _ _ ?_ (wf);rw[hI.out,hu,bO.out,bQ.out];rfl
     ·rename_i hu;refine vA ?_;rw[hI.out,hu];simp
    ·intro hI C;replace hI:=Xi hI;refine aq ?_<;>intros;refine vA ?_;rw[hI.out,Y6];rfl
theorem a3u {p:Prop}(h:p:=by
 obtain⟨hl,rfl⟩:=Xm.1 hq;have:=z' (xs:=l) (p:=fun x=>decide (t<=key x)) (w:=hl);exact of_decide_eq_true this):p:=h
theorem a3v {p:Prop}(h:p:=by
 have h1:=fP.out;rcases XL k n0 with h|h
 ·exact h
 ·have Js:k=n0:=ld;have:=kZ.out Js;rename_i h2;simp at h2;omega):p:=h
theorem a4O {p:Prop}(h:p:=by
 obtain⟨hl,rfl⟩:=Xm.1 hq;have:=Z5 hk;simp at this;omega):p:=h
theorem iA [Flo](b:Bok)(h8:b.pools.length<=8)(eP:∀p∈b.pools,p.leases.length<=32):
 MSpec prog 20 [.d (.agg (bj b))] [] (.agg [.d (.v (.int .i64 b.tick)),.own 3 b.pools.length]) [.gone,.gone,.gone,.row 62 9 b.pools.length (ab (b.pools.map al))]:=by
 refine mj func20 ntmps20 results20 ?_;refine aq ?_<;>intros;refine bq ag am b.pools (fun _=>True) (fun k=>[(4,.d (.v (.int .i64 k))),(3,.ptr 2 0),(2,.ptr 1 0),(1,.ptr 0 0)])
  (fun k=>[.box 24 ((bj b).map .d),.box 24 [.d (.v (.int .i64 0)),.d (.v (.slice none 0 0))],.box 24 [.d (.v (.int .i64 b.tick)),.own 3 k],.row 62 9 k (ab ((b.pools.take k).map al))]) trivial ?_ ?_ ?_
 ·refine(ax ak 2 24 [.d (.v (.int .i64 b.tick)),.d (.v (.slice none 0 0))] 1 62 9 rfl rfl rfl).trans ?_;exact wf
 ·intro k p hp hk _ C hC;have dF:(k:Int) < (b.pools.length:Int):=aa;have cX:=wi k aa;have gz:=eP p (Xk hp);have jQ:k+1<=100:=aa;have hlt:(Ye k b.pools).length=k:=by rw[Xo];omega
  refine aq ?_<;>intros;refine hC _ _ trivial ((av 5 1 68 5 (p.leases.map bc) rfl).trans ?_);simp only[eM,fz,ee,dX,eF,d7,aD,aZ,bg,Xl,Xp,Xz,Xx,reduceIte,and_true,true_and,and_self,and_false,false_and,Xw,XG,reduceCtorEq];exact wf (hh:=(by rw[aj hp,Xn,Xl,Xp,<-aI];rfl))
 ·intro _ C;refine aq ?_<;>intros;(try rw[Xq])
  refine(aJ 0 ak).trans ?_;refine(aJ 1 (by simp[bw])).trans ?_;exact(aJ 2 (by simp[bw])).trans (aW rfl rfl)
theorem IZ {α:Type}{key:α->Int}{t:Int}{l:List α}{k:Nat}{q:α}(hk:k < jV key t l)(hq:l[k]? =some q):key q < t:=a4O
theorem I0 {α:Type}{key:α->Int}{t:Int}{l:List α}{q:α}(hq:l[jV key t l]? =some q):t<=key q:=a3u
theorem KU [Flo](b:Bok)(p:Pol)(h8:b.pools.length<=8)(bQ:bK b p.id=none):ai prog 222 [.agg (bj b),.agg (al p)] (.agg (bj ⟨b.tick,l7 p b.pools⟩)):=by
 obtain⟨n0,mU⟩:∃n0,n0=jV (fun x:Pol=>x.id) p.id b.pools:=⟨_,rfl⟩;have a1r:n0<=b.pools.length:=by rw[mU];exact qg _ _ _
 have jr:∀k q,k < n0->b.pools[k]? =some q->q.id < p.id:=fun k q hk hq=>IZ (key:=fun x:Pol=>x.id) (by rw[<-mU];exact hk) hq;have kZ:∀q,b.pools[n0]? =some q->p.id < q.id:=fun q hq=>by
  have h1:=I0 (key:=fun x:Pol=>x.id) (t:=p.id) (l:=b.pools) (q:=q) (by rw[<-mU];exact hq);have h2:=Yr.1 bQ q (Xk hq);simp at h1 h2;omega
 have fQ:l7 p b.pools=b.pools.take n0++p::b.pools.drop n0:=by unfold l7;rw[<-mU]
 replace mU:=Xi mU;replace fQ:=Xi fQ;refine pj func222 ntmps222 results222 ?_;refine aq ?_<;>intros;refine bL ag am (fun m e h=>∃(k:Nat) (out:List Pol) (f:Bool),k<=b.pools.length/\out.length<=k+1/\((f=false/\k<=n0/\out=b.pools.take k)\/(f=true/\n0 < k/\out++b.pools.drop k=l7 p b.pools))/\m=b.pools.length - k/\
  e=[(7,.d (.v (.int .i64 k))),(6,.d (.v (.bool f))),(5,.ptr 3 0),(4,.ptr 2 0),(3,.ptr 1 0),(2,.ptr 0 0)]/\
  h=[.box 24 ((bj b).map .d),.box 62 ((al p).map .d),.box 24 [.d (.v (.int .i64 0)),.d (.v (.slice none 0 0))],.box 24 [.d (.v (.int .i64 b.tick)),.own 4 out.length],.row 62 9 out.length (ab (out.map al))]) _ _ _ ⟨0,[],false,XE _,XE _,.inl ⟨rfl,XE _,rfl⟩,rfl,rfl,rfl⟩ ?_ ?_
 ·refine(ax ak 3 24 [.d (.v (.int .i64 b.tick)),.d (.v (.slice none 0 0))] 1 62 9 rfl rfl rfl).trans ?_;exact wf
 ·rintro m e h ⟨k,out,f,hk,o4,fP,hm,rfl,rfl⟩ C hC;replace hm:=Xi hm;replace fP:=Xi fP;have jQ:out.length+1+1<=100:=aa;have jT:out.length+1<=100:=aa;by_cases hlt:k < b.pools.length
  ·have dF:(k:Int) < (b.pools.length:Int):=aa;have cX:=wi k aa;obtain⟨q,hq⟩:∃q,b.pools[k]? =some q:=⟨_,Xj hlt⟩;have F4:=Xi (kg hq);have jr:=Xi (fun h=>jr k q h hq);have kZ:=Xi (fun h:k=n0=>kZ q (by rw[<-h];exact hq));refine fl ?_ ?_ ?_ ?_ ?_ ?_ ?_ ?_<;>first|(with_reducible exact True.intro)|intros
   ·refine hC _ _ _ _ _ ?_ ⟨k+1,out++[q],true,by omega,by simp;omega,.inr ⟨rfl,?_,?_⟩,rfl,rfl,rfl⟩ (wf (hh:=(by simp only[bj,al,Xn,Xl,Xp,XV,XC,XX,X3];rfl)))
    ·have:=hm.out;omega
    ·have:=fP.out;grind
    ·have:=fP.out;have:=F4.out;grind
   ·refine hC _ _ _ _ _ ?_ ⟨k+1,out++[p]++[q],true,by omega,by have:=fP.out;simp;grind,.inr ⟨rfl,?_,?_⟩,rfl,rfl,rfl⟩ (wf (hh:=(by simp only[bj,al,Xn,Xl,Xp,XV,XC,XX,X3];rfl)))
    ·have:=hm.out;omega
    ·have:=fP.out;grind
    ·have h1:=fP.out;have:=F4.out;have hle:k<=n0/\out=b.pools.take k:=ld;have Js:k=n0:=by
      rcases XL k n0 with h|h
      ·have:=jr.out h;have h2:=of_decide_eq_true ‹decide (q.id>p.id)=true›;omega
      ·omega
     rw[fQ.out,hle.2,<-Js,this];simp
   ·refine hC _ _ _ _ _ ?_ ⟨k+1,out++[q],false,by omega,by simp;omega,.inl ⟨rfl,?_,?_⟩,rfl,rfl,rfl⟩ (wf (hh:=(by simp only[bj,al,Xn,Xl,Xp,XV,XC,XX,X3];rfl)))
    ·have:=hm.out;omega
    ·exact a3v
    ·have h1:=fP.out;rw[aj hq];grind
  ·obtain rfl:k=b.pools.length:=aa;refine zk ?_ ?_<;>intros
   ·rw[show l7 p b.pools=out from by have h1:=fP.out;grind];exact aO.refl _
   ·rw[show l7 p b.pools=out++[p] from by
     have h1:=fP.out;rw[fQ.out];have Js:n0=b.pools.length:=ld;rw[Js];grind]
    rw[Xn];exact aO.refl _
theorem Bj [Flo](b:Bok)(p:Pol)(g:Nat)(d:D)(h8:b.pools.length<=8)(bQ:bK b p.id=none)(hd:aO d (.agg (al p))):
 MSpec prog 222 [.agg [.d (.v (.int .i64 b.tick)),.own 0 g],.d d] [.row 62 9 g (ab (b.pools.map al))] (.d (.agg (bj ⟨b.tick,l7 p b.pools⟩))) [.gone]:=
 (xv (KU b p h8 bQ) (args:=[.agg [.d (.v (.int .i64 b.tick)),.own 0 g],.d (.agg (al p))]) (h0:=[.row 62 9 g (ab (b.pools.map al))]) (by simp[aw,ay]) (by simp[aL,aQ,aF]) (by simp[vw,cI,br,az,eL,bj]) (by simp[tc,j6,cW,az,nW])).lep ⟨.inl rfl,.inr ⟨_,_,rfl,rfl,hd⟩,trivial⟩ (by simp[aw,ay])
theorem Bok.zero_le [Flo]:aO (.agg [.v (.int .i64 0),.v (.slice none 0 0)]) (.agg (bj Bok.zero)):=dg
theorem Ou [Flo](b:Bok)(id:Int)(root:Pfx)(r:Rul)(hz:∀p∈b.pools,p.leases.length<=3518437208882):ai prog 160 [.agg (bj b),.v (.int .i64 id),.agg (aS root),.agg (vV r)] (.tup [.agg (bj (gx b id root r).1),.v (.int .i64 (gx b id root r).2)]):=by
 obtain⟨R,hR⟩:∃R,R=gx b id root r:=⟨_,rfl⟩;rw[<-hR];replace hR:=Xi hR;have bo:=il b hz;by_cases hc:bn b=0
 ·have bW:=db hc;have h8:=bW.n8;have hid:=eJ id 1 65536;have FK:=xD root;have Al:=rH r root;have dh:=iT b id aa;have iE:=iA b bW.n8 bW.l32;have aR:R=if oO b id root r≠0 then (Bok.zero,oO b id root r)else (⟨b.tick,l7 ⟨id,0,root,r,[]⟩ b.pools⟩,0):=by rw[hR.out];unfold gx;rw[af (by simpa using hc)]
  unfold oO dZ at aR;have qy:bC root.at_ root.len=(chk root.at_ root.len==0):=rfl;replace qy:=Xi qy;replace aR:=Xi aR;rw[hc]at bo;replace hc:=Xi hc;clear hR;cases hq:bK b id with
  |none=>
   have Jo:=Bj b ⟨id,0,root,r,[]⟩ b.pools.length (.agg [.v (.int .i64 id),.v (.int .i64 0),.v (.int .i64 root.at_),.v (.int .i64 root.len),.v (.int .i64 r.min),.v (.int .i64 r.max),.v (.int .i64 r.usual),.v (.int .i64 r.cool),.v (.slice none 0 0)]) bW.n8 hq dg;rw[oE hq]at dh
   have Ac:decide ((-1:Int)>=0)=false:=rfl;replace hq:=Xi hq;clear bW;refine pj func160 ntmps160 results160 ?_;refine fl ?_ ?_ ?_ ?_ ?_ ?_ ?_ ?_<;>first|(with_reducible exact True.intro)|intros
   ·refine bq ag am b.pools (fun k=>∀j (q:Pol),j < k->b.pools[j]? =some q->((q.up==0)&&q.root.meets root)=false) (fun k=>[(11,.d (.v (.int .i64 k))),(9,.d (.v (.int .i64 0))),(8,.ptr 3 0),(7,.ptr 2 0),(6,.ptr 1 0),(4,.ptr 0 0),(1,.d (.v (.int .i64 id)))])
     (fun _=>[.box 24 ((bj b).map .d),.box 32 ((aS root).map .d),.box 34 ((vV r).map .d),.box 24 [.d (.v (.int .i64 0)),.d (.v (.slice none 0 0))]]) (fun j q h=>absurd h (Yy _)) (wf) ?_ ?_
    ·intro k q hqk hk hI C hC;have dF:(k:Int) < (b.pools.length:Int):=aa;have cX:=wi k aa;have o0:=rl q.root root;rw[fI]at o0;have key:∀t,((q.up==0)&&q.root.meets root)=t->t=false->∀j (q:Pol),j < k+1->b.pools[j]? =some q->((q.up==0)&&q.root.meets root)=false:=by
      intro t h1 h2 j q' hj hq';rcases XL j k with h|h
      ·exact hI j q' h hq'
      ·obtain rfl:j=k:=aa;rw[hqk]at hq';obtain rfl:=XU.inj hq';rw[h1,h2]
     have bad:((q.up==0)&&q.root.meets root)=true->(b.pools.any fun p=>(p.up==0)&&p.root.meets root)=true:=fun h=>XR.2 ⟨q,Xk hqk,h⟩;replace key:=Xi key;replace bad:=Xi bad;replace hI:=Xi hI;refine fl ?_ ?_ ?_ ?_ ?_ ?_ ?_ ?_<;>first|(with_reducible exact True.intro)|intros
     all_goals clear hz bo hid FK Al dh iE Jo o0
     all_goals first
      |(refine hC _ _ (key.out _ ?_ rfl) (wf);clear hC;grind)
      |(have hb:=bad.out (by clear hC;grind);clear hC;have hq:=hq.out;have qy:=qy.out;(rw[show R=(Bok.zero,6) from (by rw[aR.out];grind)];(try simp only[Xn,Xl]);exact dg))
    ·intro hI C1;have jO:(b.pools.any fun p=>(p.up==0)&&p.root.meets root)=false:=by
      rw[Yh];intro q hq;obtain⟨j,hj,rfl⟩:=XZ.1 hq;rw[hI j _ hj (Xj hj)];simp
     replace hI:=Xi hI;replace jO:=Xi jO;have z1z:=Ln.mk (ls:=[]) (iE);have z2z:=Ln.mk (ls:=[7]) (Jo);refine fl ?_ ?_ ?_ ?_ ?_ ?_ ?_ ?_<;>first|(with_reducible exact True.intro)|intros
     all_goals clear hz bo hid FK Al dh iE Jo
     all_goals have hq:=hq.out
     all_goals have qy:=qy.out
     all_goals have jO:=jO.out
     all_goals first
      |(rw[show R=(Bok.zero,1) from (by rw[aR.out];grind)];(try simp only[Xn,Xl]);exact dg)
      |(rw[show R=(Bok.zero,2) from (by rw[aR.out];grind)];(try simp only[Xn,Xl]);exact dg)
      |(rw[show R=(⟨b.tick,l7 ⟨id,0,root,r,[]⟩ b.pools⟩,0) from (by rw[aR.out];grind)];(try simp only[Xn,Xl]);exact dg)
   all_goals(clear hz bo hid FK Al dh iE Jo;have qy:=qy.out;(rw[show R=(Bok.zero,3) from (by rw[aR.out];grind)];(try simp only[Xn,Xl]);exact dg))
  |some q=>
   obtain⟨i,e1,e2,e3⟩:=iS hq;rw[e1]at dh
   have mC:decide ((i:Int)>=0)=true:=ak;clear bW e1 e2 e3;replace hq:=Xi hq;refine pj func160 ntmps160 results160 ?_;refine fl ?_ ?_ ?_ ?_ ?_ ?_ ?_ ?_<;>first|(with_reducible exact True.intro)|intros
   all_goals clear hz bo hid FK Al dh iE
   all_goals have qy:=qy.out
   all_goals have hq:=hq.out
   all_goals first
    |(rw[show R=(Bok.zero,3) from (by rw[aR.out];grind)];(try simp only[Xn,Xl]);exact dg)
    |(rw[show R=(Bok.zero,6) from (by rw[aR.out];grind)];(try simp only[Xn,Xl]);exact dg)
 ·have h1:(bn b !=0)=true:=by simpa using hc
  have hr:R=(Bok.zero,bn b):=by rw[hR.out];unfold gx;rw[ah hc]
  rw[hr];replace hr:=Xi hr;clear hR;refine pj func160 ntmps160 results160 ?_;refine aq ?_<;>intros;exact dg
theorem Ov {root:Pfx}{us:List Pfx}{size:Int}(h0:iP root us=0)(h1:root.len<=size/\size<=16):mv root us size=((oV root us size).1,(oV root us size).2,0):=by
 unfold mv oV;rw[ah h0,af aa];cases(jG root us).find? (fun q=>decide (q.len<=size))<;>rfl
theorem yx [Flo](p:Pol)(l:Lse)(eP:p.leases.length<=32)(bQ:∀x∈p.leases,x.at_.at_≠l.at_.at_):ai prog 167 [.agg (al p),.agg (bc l)] (.agg (al {p with leases:=iQ l p.leases})):=by
 obtain⟨n0,mU⟩:∃n0,n0=jV (fun x:Lse=>x.at_.at_) l.at_.at_ p.leases:=⟨_,rfl⟩;have a1r:n0<=p.leases.length:=by rw[mU];exact qg _ _ _
 have jr:∀k q,k < n0->p.leases[k]? =some q->q.at_.at_ < l.at_.at_:=fun k q hk hq=>IZ (key:=fun x:Lse=>x.at_.at_) (by rw[<-mU];exact hk) hq;have kZ:∀q,p.leases[n0]? =some q->l.at_.at_ < q.at_.at_:=fun q hq=>by
  have h1:=I0 (key:=fun x:Lse=>x.at_.at_) (t:=l.at_.at_) (l:=p.leases) (q:=q) (by rw[<-mU];exact hq);have h2:=bQ q (Xk hq);have h1:l.at_.at_<=q.at_.at_:=h1;omega
 have fQ:iQ l p.leases=p.leases.take n0++l::p.leases.drop n0:=by unfold iQ;rw[<-mU]
 replace mU:=Xi mU;replace fQ:=Xi fQ;refine pj func167 ntmps167 results167 ?_;refine aq ?_<;>intros;refine bL ag am (fun m e h=>∃(k:Nat) (out:List Lse) (f:Bool),k<=p.leases.length/\out.length<=k+1/\((f=false/\k<=n0/\out=p.leases.take k)\/(f=true/\n0 < k/\out++p.leases.drop k=iQ l p.leases))/\m=p.leases.length - k/\
  e=[(7,.d (.v (.int .i64 k))),(6,.d (.v (.bool f))),(5,.own 3 out.length),(4,.ptr 2 0),(3,.ptr 1 0),(2,.ptr 0 0)]/\
  h=[.box 62 ((al p).map .d),.box 68 ((bc l).map .d),.box 62 [.d (.v (.int .i64 0)),.d (.v (.int .i64 0)),.d (.v (.int .i64 0)),.d (.v (.int .i64 0)),.d (.v (.int .i64 0)),.d (.v (.int .i64 0)),.d (.v (.int .i64 0)),.d (.v (.int .i64 0)),.d (.v (.slice none 0 0))],.row 68 5 out.length (ab (out.map bc))]) _ _ _ ⟨0,[],false,XE _,XE _,.inl ⟨rfl,XE _,rfl⟩,rfl,rfl,rfl⟩ ?_ ?_
 ·refine(du ak 5 68 5 rfl).trans ?_;exact wf
 ·rintro m e h ⟨k,out,f,hk,o4,fP,hm,rfl,rfl⟩ C hC;replace hm:=Xi hm;replace fP:=Xi fP;have jQ:out.length+1+1<=100:=aa;have jT:out.length+1<=100:=aa;by_cases hlt:k < p.leases.length
  ·have dF:(k:Int) < (p.leases.length:Int):=aa;have cX:=wi k aa;obtain⟨q,hq⟩:∃q,p.leases[k]? =some q:=⟨_,Xj hlt⟩;have F4:=Xi (kg hq);have jr:=Xi (fun h=>jr k q h hq);have kZ:=Xi (fun h:k=n0=>kZ q (by rw[<-h];exact hq));refine fl ?_ ?_ ?_ ?_ ?_ ?_ ?_ ?_<;>first|(with_reducible exact True.intro)|intros
   ·refine hC _ _ _ _ _ ?_ ⟨k+1,out++[q],true,by omega,by simp;omega,.inr ⟨rfl,?_,?_⟩,rfl,rfl,rfl⟩ (wf (hh:=(by simp only[al,bc,Xn,Xl,Xp,XV,XC,XX,X3];rfl)) (he:=(by(repeat' (first|exact trivial|(refine⟨?_,?_⟩)|rfl|(simp only[XV,XC,XX];rfl))))))
    ·have:=hm.out;omega
    ·have:=fP.out;grind
    ·have:=fP.out;have:=F4.out;grind
   ·refine hC _ _ _ _ _ ?_ ⟨k+1,out++[l]++[q],true,by omega,by have:=fP.out;simp;grind,.inr ⟨rfl,?_,?_⟩,rfl,rfl,rfl⟩ (wf (hh:=(by simp only[al,bc,Xn,Xl,Xp,XV,XC,XX,X3];rfl)) (he:=(by(repeat' (first|exact trivial|(refine⟨?_,?_⟩)|rfl|(simp only[XV,XC,XX];rfl))))))
    ·have:=hm.out;omega
    ·have:=fP.out;grind
    ·have h1:=fP.out;have:=F4.out;have hle:k<=n0/\out=p.leases.take k:=ld;have Js:k=n0:=by
      rcases XL k n0 with h|h
      ·have:=jr.out h;have h2:=of_decide_eq_true ‹decide (q.at_.at_>l.at_.at_)=true›;omega
      ·omega
     rw[fQ.out,hle.2,<-Js,this];simp
   ·refine hC _ _ _ _ _ ?_ ⟨k+1,out++[q],false,by omega,by simp;omega,.inl ⟨rfl,?_,?_⟩,rfl,rfl,rfl⟩ (wf (hh:=(by simp only[al,bc,Xn,Xl,Xp,XV,XC,XX,X3];rfl)) (he:=(by(repeat' (first|exact trivial|(refine⟨?_,?_⟩)|rfl|(simp only[XV,XC,XX];rfl))))))
    ·have:=hm.out;omega
    ·exact a3v
    ·have h1:=fP.out;rw[aj hq];grind
  ·obtain rfl:k=p.leases.length:=aa;refine zk ?_ ?_<;>intros
   ·rw[show iQ l p.leases=out from by have h1:=fP.out;grind];exact aO.refl _
   ·rw[show iQ l p.leases=out++[l] from by
     have h1:=fP.out;rw[fQ.out];have Js:n0=p.leases.length:=ld;rw[Js];grind]
    rw[Xn];exact aO.refl _
def dD (p:Pol)(size:Int):Pfx × Bool:=if 32<=p.leases.length then (Pfx.zero,false)else oV p.root (dC p) size
theorem KV {root:Pfx}{us:List Pfx}{size:Int}(h:SpaceOK root us)(hf:(oV root us size).2=true):∀u∈us,u.at_≠(oV root us size).1.at_:=by
 unfold oV at hf ⊢;cases hq:(jG root us).find? (fun q=>decide (q.len<=size))with
 |none=>rw[hq]at hf;simp at hf
 |some q=>
  obtain⟨g1,g2⟩:=ry h (YC hq);intro u hu he;have he:u.at_=q.at_:=he;have qw:=(cr.1 g1).1;have kU:=(cr.1 (h.ins u hu)).1;have hm:q.meets u=true:=dY.2 ⟨qw,kU,by have:=Pfx.hi_bd kU;omega,by have:=Pfx.hi_bd qw;omega⟩;unfold jH at g2;rw[XR.2 ⟨u,hu,hm⟩]at g2;exact absurd g2 ak
theorem E0 {p:Pol}{size:Int}(h:iP p.root (dC p)=0)(hr:fY p.rule p.root.len=true)(h1:p.rule.min<=size)(h2:size<=p.rule.max):cy p size=if (dD p size).2=true then ((dD p size).1,0)else (Pfx.zero,8):=by
 have oR:p.root.len<=size/\size<=16:=by
  unfold fY at hr;simp[gO]at hr;omega
 have eP:p.leases.length<=32:=by have:=(sM.1 h).many;simpa[dC]using this
 unfold cy dD;rw[af aa,Ov h oR];by_cases h3:32<=p.leases.length
 ·have h4:p.leases.length=32:=aa;simp[h3,h4]
 ·have h4:¬p.leases.length=32:=aa;rw[af h3];cases hb:(oV p.root (dC p) size).2<;>simp[h4]
theorem Ow [Flo](p:Pol)(size:Int)(h:iP p.root (dC p)=0)(h1:p.root.len<=size)(h2:size<=16):ai prog 166 [.agg (al p),.v (.int .i64 size)] (.tup [.agg (aS (dD p size).1),.v (.bool (dD p size).2)]):=by
 have eP:p.leases.length<=32:=by have:=(sM.1 h).many;simpa[dC]using this
 have oY:=Bi p aa;have SA:=Ri p.root (dC p) size (sM.1 h) h1 h2;unfold dC at SA;by_cases h3:32<=p.leases.length
 ·have h3I:decide ((p.leases.length:Int)>=32)=true:=aN;have hr:dD p size=(Pfx.zero,false):=by unfold dD;rw[ah h3]
  rw[hr];replace hr:=Xi hr;refine pj func166 ntmps166 results166 ?_;exact aY
 ·have h3I:decide ((p.leases.length:Int)>=32)=false:=aN;have hr:dD p size=oV p.root (p.leases.map (·.at_)) size:=by unfold dD dC;rw[af h3]
  rw[hr];replace hr:=Xi hr;refine pj func166 ntmps166 results166 ?_;exact aY
theorem a4z {p:Prop}(h:p:=by
 unfold cy;rw[ah];simp only[ZN,decide_eq_false_iff_not]at dM;omega):p:=h
theorem a4K {p:Prop}(h:p:=by
 intro s;have:=gA.2.2;unfold fY at this;simp[gO]at this;omega):p:=h
theorem ta {b:Bok}{i:Nat}{p:Pol}(hr:ox b.pools)(hp:b.pools[i]? =some p)(f:Pol->Pol):sS b p.id f=⟨b.tick,b.pools.set i (f p)⟩:=by
 unfold sS;congr 1;obtain⟨hi,he⟩:=Xm.1 hp;apply Yg;intro j;rw[Xr,List.getElem?_set];by_cases hij:i=j
 ·subst hij;rw[hp];simp[hi]
 ·rw[af hij];cases hq:b.pools[j]? with
  |none=>rfl
  |some q=>
   obtain⟨hj,qz⟩:=Xm.1 hq;have bG:q.id≠p.id:=by
    rcases V' hij with h|h
    ·have:=XH.1 hr i j hi hj h;rw[he,qz]at this;omega
    ·have:=XH.1 hr j i hj hi h;rw[he,qz]at this;omega
   simp[bG]
theorem E1 {p:Pol}{size:Int}(h:iP p.root (dC p)=0)(hf:(dD p size).2=true):∀x∈p.leases,x.at_.at_≠(dD p size).1.at_:=by
 unfold dD at hf ⊢;split at hf
 ·cases hf
 ·rename_i h3;rw[af h3];intro x hx;exact KV (sM.1 h) hf x.at_ (XF.2 ⟨x,hx,rfl⟩)
theorem E2 [Flo](b:Bok)(id size owner:Int)(hz:∀p∈b.pools,p.leases.length<=3518437208882):ai prog 81 [.agg (bj b),.v (.int .i64 id),.v (.int .i64 size),.v (.int .i64 owner)] (.tup [.agg (bj (cQ b id size owner).1),.agg (aS (cQ b id size owner).2.1),.v (.int .i64 (cQ b id size owner).2.2)]):=by
 obtain⟨R,hR⟩:∃R,R=cQ b id size owner:=⟨_,rfl⟩;rw[<-hR];replace hR:=Xi hR;have bo:=il b hz;by_cases hc:bn b=0
 ·have bW:=db hc;have h8:=bW.n8;have hid:=eJ owner 1 65536;have dh:=iT b id aa;cases hq:bK b id with
  |none=>
   have hr:R=(Bok.zero,Pfx.zero,5):=by rw[hR.out];unfold cQ;rw[af (by simpa using hc),hq]
   rw[hr];rw[hc]at bo;rw[oE hq]at dh
   have Ac:decide ((-1:Int) < 0)=true:=rfl;clear hr hR hq bW hc;refine pj func81 ntmps81 results81 ?_;refine aq ?_<;>intros;exact dg
  |some p=>
   obtain⟨i,e1,e2,e3⟩:=iS hq;subst e3;have p5:p∈b.pools:=Xk e2;have iE:=iA b bW.n8 bW.l32;have gA:=bW.mem p p5;have oR:∀s,p.rule.min<=s->s<=p.rule.max->p.root.len<=s/\s<=16:=a4K
   have cK:∀s,Hid ((decide (p.rule.min<=s)&&decide (s<=p.rule.max))=true->p.root.len<=s/\s<=16):=fun s h=>by
    simp only[Xv,decide_eq_true_eq]at h;exact oR s h.1 h.2
   rw[hc]at bo;rw[e1]at dh
   have mC:decide ((i:Int) < 0)=false:=ak;have gM:=fun f=>ta bW.rise e2 f;have iU:=fun q=>bN al b.pools i q;have key:∀s,(if size=0 then p.rule.usual else size)=s->Hid (R=if dZ owner=false then (Bok.zero,Pfx.zero,3)else if (cy p s).2≠0 then (Bok.zero,Pfx.zero,(cy p s).2)else
    (⟨b.tick,b.pools.set i {p with leases:=iQ ⟨(cy p s).1,1,owner,0⟩ p.leases}⟩,(cy p s).1,0)):=by
    intro s hs;show R=_;rw[hR.out];unfold cQ;rw[af (by simpa using hc),hq];simp only;rw[hs,gM]
   have SZ:i < b.pools.length:=(Xm.1 e2).1;obtain⟨s,hs⟩:∃s,((size==0)=true/\s=p.rule.usual)\/((size==0)=false/\s=size):=by
    cases h0:size==0
    ·exact⟨size,.inr ⟨rfl,rfl⟩⟩
    ·exact⟨p.rule.usual,.inl ⟨rfl,rfl⟩⟩
   have aR:=key s (by
    rcases hs with⟨h0,rfl⟩|⟨h0,rfl⟩
    ·rw[ah (by simpa using h0)]
    ·rw[af (by simpa using h0)])
   have Ai:=eJ s p.rule.min p.rule.max;cases dM:(decide (p.rule.min<=s)&&decide (s<=p.rule.max))with
   |false=>
    rw[dM]at Ai;have hE:cy p s=(Pfx.zero,7):=a4z
    replace dM:=Xi dM;replace hE:=Xi hE;clear hR hc bW hq key gM iU;rcases hs with⟨h0,rfl⟩|⟨h0,rfl⟩
    all_goals
     refine pj func81 ntmps81 results81 ?_;refine zk ?_ ?_<;>intros;all_goals(have hE:=hE.out;unfold dZ at aR;clear bo dh hid Ai hz iE)
     all_goals first
      |(rw[show R=(Bok.zero,Pfx.zero,3) from (by rw[aR.out];grind)];(try simp only[Xn,Xl]);exact dg)
      |(rw[show R=(Bok.zero,Pfx.zero,7) from (by rw[aR.out];grind)];(try simp only[Xn,Xl]);exact dg)
   |true=>
    rw[dM]at Ai;have wG:=Ow p s gA.2.1 (cK s dM).1 (cK s dM).2;have zp:=E0 gA.2.1 gA.2.2 (by simp at dM;exact dM.1) (by simp at dM;exact dM.2);have LQ:(dD p s).2=true->ai prog 167 [.agg (al p),.agg (bc ⟨(dD p s).1,1,owner,0⟩)] (.agg (al {p with leases:=iQ ⟨(dD p s).1,1,owner,0⟩ p.leases})):=fun h=>yx p _ (bW.l32 p p5) (E1 gA.2.1 h);have dN:=iU {p with leases:=iQ ⟨(dD p s).1,1,owner,0⟩ p.leases};simp only[al,Xl,Xp]at dN;replace LQ:=Xi LQ;clear hR hc bW hq key gM iU;replace dM:=Xi dM;cases hf:(dD p s).2 with
    |false=>
     rw[hf]at wG zp;have hE:cy p s=(Pfx.zero,8):=zp;replace hE:=Xi hE;replace zp:=Xi zp;rcases hs with⟨h0,rfl⟩|⟨h0,rfl⟩
     all_goals
      refine pj func81 ntmps81 results81 ?_;refine zk ?_ ?_<;>intros;all_goals(have hE:=hE.out;unfold dZ at aR;clear bo dh hid Ai hz iE wG LQ dN zp)
      all_goals first
       |(rw[show R=(Bok.zero,Pfx.zero,3) from (by rw[aR.out];grind)];(try simp only[Xn,Xl]);exact dg)
       |(rw[show R=(Bok.zero,Pfx.zero,8) from (by rw[aR.out];grind)];(try simp only[Xn,Xl]);exact dg)
    |true=>
     rw[hf]at wG zp;have hE:cy p s=((dD p s).1,0):=zp;replace hE:=Xi hE;replace zp:=Xi zp;have LQ:=LQ.out hf;rcases hs with⟨h0,rfl⟩|⟨h0,rfl⟩
     all_goals
      refine pj func81 ntmps81 results81 ?_;have z1z:=Ln.mk (ls:=[]) (iE);refine zk ?_ ?_<;>intros;all_goals(have hE:=hE.out;have gn:=aR.out;unfold dZ at gn;rw[hE]at gn;replace aR:=Xi gn;clear bo dh hid Ai hz iE wG LQ dN zp gn)
     all_goals first
      |(rw[show R=(Bok.zero,Pfx.zero,3) from (by rw[aR.out];grind)];(try simp only[Xn,Xl]);exact dg)
      |(rw[show R=(⟨b.tick,b.pools.set i {p with leases:=iQ ⟨(dD p p.rule.usual).1,1,owner,0⟩ p.leases}⟩,(dD p p.rule.usual).1,0) from (by rw[aR.out];grind)];(try simp only[Xn,Xl]);exact dg)
      |(rw[show R=(⟨b.tick,b.pools.set i {p with leases:=iQ ⟨(dD p size).1,1,owner,0⟩ p.leases}⟩,(dD p size).1,0) from (by rw[aR.out];grind)];(try simp only[Xn,Xl]);exact dg)
      |(rw[show R=(⟨b.tick,b.pools.set i {p with leases:=iQ ⟨(dD p s).1,1,owner,0⟩ p.leases}⟩,(dD p s).1,0) from (by rw[aR.out];grind)];(try simp only[Xn,Xl]);exact dg)
 ·have h1:(bn b !=0)=true:=by simpa using hc
  have hr:R=(Bok.zero,Pfx.zero,bn b):=by rw[hR.out];unfold cQ;rw[ah hc]
  rw[hr];replace hr:=Xi hr;clear hR;refine pj func81 ntmps81 results81 ?_;refine aq ?_<;>intros;exact dg
theorem Hh {b:Bok}{i:Nat}{p q:Pol}{id:Int}(hp:b.pools[i]? =some p)(hid:q.id=p.id)(h:bK b id=none):bK ⟨b.tick,b.pools.set i q⟩ id=none:=by
 unfold bK at h ⊢;rw[Yr]at h ⊢;intro x hx;obtain⟨j,hj,rfl⟩:=XZ.1 hx;simp only[List.getElem_set];split
 ·rename_i e;rw[hid];exact h p (Xk hp)
 ·exact h _ (Yl _)
theorem Ox [Flo](b:Bok)(id up size:Int)(r:Rul)(hz:∀p∈b.pools,p.leases.length<=3518437208882):ai prog 161 [.agg (bj b),.v (.int .i64 id),.v (.int .i64 up),.v (.int .i64 size),.agg (vV r)] (.tup [.agg (bj (gy b id up size r).1),.agg (aS (gy b id up size r).2.1),.v (.int .i64 (gy b id up size r).2.2)]):=by
 obtain⟨R,hR⟩:∃R,R=gy b id up size r:=⟨_,rfl⟩;rw[<-hR];replace hR:=Xi hR;have bo:=il b hz;by_cases hc:bn b=0
 ·have bW:=db hc;have h8:=bW.n8;have hid:=eJ id 1 65536;have dh:=iT b up aa;have uR:=iT b id aa;cases hq:bK b up with
  |none=>
   have aR:R=if dZ id=false then (Bok.zero,Pfx.zero,3)else (Bok.zero,Pfx.zero,5):=by rw[hR.out];unfold gy;rw[af (by simpa using hc),hq]
   rw[hc]at bo;rw[oE hq]at dh
   have Ac:decide ((-1:Int) < 0)=true:=rfl;replace aR:=Xi aR;clear hR hq bW hc uR;refine pj func161 ntmps161 results161 ?_;refine zk ?_ ?_<;>intros;all_goals(unfold dZ at aR;clear bo dh hid hz)
   all_goals first
    |(rw[show R=(Bok.zero,Pfx.zero,3) from (by rw[aR.out];grind)];(try simp only[Xn,Xl]);exact dg)
    |(rw[show R=(Bok.zero,Pfx.zero,5) from (by rw[aR.out];grind)];(try simp only[Xn,Xl]);exact dg)
  |some p=>
   obtain⟨i,e1,e2,e3⟩:=iS hq;subst e3;have p5:p∈b.pools:=Xk e2;have iE:=iA b bW.n8 bW.l32;have gA:=bW.mem p p5;have SZ:i < b.pools.length:=(Xm.1 e2).1;have oR:∀s,p.rule.min<=s->s<=p.rule.max->p.root.len<=s/\s<=16:=a4K
   rw[hc]at bo;rw[e1]at dh
   have mC:decide ((i:Int) < 0)=false:=ak;have gM:=fun f=>ta bW.rise e2 f;have iU:=fun q=>bN al b.pools i q;have aR:R=if dZ id=false then (Bok.zero,Pfx.zero,3)else if (bK b id).isSome=true then (Bok.zero,Pfx.zero,6)else if (cy p size).2≠0 then (Bok.zero,Pfx.zero,(cy p size).2)else if fY r (cy p size).1.len=false then (Bok.zero,Pfx.zero,1)else
    if b.pools.length=8 then (Bok.zero,Pfx.zero,2)else (⟨b.tick,l7 ⟨id,p.id,(cy p size).1,r,[]⟩ (b.pools.set i {p with leases:=iQ ⟨(cy p size).1,2,id,0⟩ p.leases})⟩,(cy p size).1,0):=by
    rw[hR.out];unfold gy;rw[af (by simpa using hc),hq];simp only;rw[gM]
   replace aR:=Xi aR;cases qz:bK b id with
   |some q=>
    obtain⟨j,f1,f2,f3⟩:=iS qz;rw[f1]at uR;have W3:decide ((j:Int)>=0)=true:=ak;have gn:=aR.out;rw[qz]at gn;replace aR:=Xi gn;clear hR hc bW hq qz gM iU f2 f1 f3 gn;refine pj func161 ntmps161 results161 ?_;refine zk ?_ ?_<;>intros;all_goals(unfold dZ at aR;clear bo dh hid hz uR iE)
    all_goals first
     |(rw[show R=(Bok.zero,Pfx.zero,3) from (by rw[aR.out];grind)];(try simp only[Xn,Xl]);exact dg)
     |(rw[show R=(Bok.zero,Pfx.zero,6) from (by rw[aR.out];grind)];(try simp only[Xn,Xl]);exact dg)
   |none=>
    rw[oE qz]at uR;have Ac:decide ((-1:Int)>=0)=false:=rfl;have gn:=aR.out;rw[qz]at gn;replace aR:=Xi gn;clear gn;have Ai:=eJ size p.rule.min p.rule.max;cases dM:(decide (p.rule.min<=size)&&decide (size<=p.rule.max))with
    |false=>
     rw[dM]at Ai;have hE:cy p size=(Pfx.zero,7):=a4z
     replace dM:=Xi dM;replace hE:=Xi hE;clear hR hc bW hq gM iU qz;refine pj func161 ntmps161 results161 ?_;refine zk ?_ ?_<;>intros;all_goals(have hE:=hE.out;unfold dZ at aR;clear bo dh hid Ai hz iE uR)
     all_goals first
      |(rw[show R=(Bok.zero,Pfx.zero,3) from (by rw[aR.out];grind)];(try simp only[Xn,Xl]);exact dg)
      |(rw[show R=(Bok.zero,Pfx.zero,7) from (by rw[aR.out];grind)];(try simp only[Xn,Xl]);exact dg)
    |true=>
     rw[dM]at Ai;simp only[Xv,decide_eq_true_eq]at dM;have oR:=oR size dM.1 dM.2;have wG:=Ow p size gA.2.1 oR.1 oR.2;have zp:=E0 gA.2.1 gA.2.2 dM.1 dM.2;have LQ:(dD p size).2=true->ai prog 167 [.agg (al p),.agg (bc ⟨(dD p size).1,2,id,0⟩)] (.agg (al {p with leases:=iQ ⟨(dD p size).1,2,id,0⟩ p.leases})):=fun h=>yx p _ (bW.l32 p p5) (E1 gA.2.1 h);have dN:=iU {p with leases:=iQ ⟨(dD p size).1,2,id,0⟩ p.leases};simp only[al,Xl,Xp]at dN;have Al:=rH r (dD p size).1;have Jo:=Bj ⟨b.tick,b.pools.set i {p with leases:=iQ ⟨(dD p size).1,2,id,0⟩ p.leases}⟩ ⟨id,p.id,(dD p size).1,r,[]⟩ b.pools.length (.agg [.v (.int .i64 id),.v (.int .i64 p.id),.v (.int .i64 (dD p size).1.at_),.v (.int .i64 (dD p size).1.len),.v (.int .i64 r.min),.v (.int .i64 r.max),.v (.int .i64 r.usual),.v (.int .i64 r.cool),.v (.slice none 0 0)]) (by simpa using h8) (Hh e2 (by rfl) qz) dg;replace LQ:=Xi LQ;clear hR hc bW hq gM iU oR qz;replace dM:=Xi dM;cases hf:(dD p size).2 with
     |false=>
      rw[hf]at wG zp;have hE:cy p size=(Pfx.zero,8):=zp;replace hE:=Xi hE;replace zp:=Xi zp;refine pj func161 ntmps161 results161 ?_;refine zk ?_ ?_<;>intros;all_goals(have hE:=hE.out;unfold dZ at aR;clear bo dh hid Ai hz iE uR wG LQ dN zp Jo Al)
      all_goals first
       |(rw[show R=(Bok.zero,Pfx.zero,3) from (by rw[aR.out];grind)];(try simp only[Xn,Xl]);exact dg)
       |(rw[show R=(Bok.zero,Pfx.zero,8) from (by rw[aR.out];grind)];(try simp only[Xn,Xl]);exact dg)
     |true=>
      rw[hf]at wG zp;have hE:cy p size=((dD p size).1,0):=zp;have gn:=aR.out;unfold dZ at gn;rw[hE]at gn;replace aR:=Xi gn;clear hE zp gn;have LQ:=LQ.out hf;refine pj func161 ntmps161 results161 ?_;have z1z:=Ln.mk (ls:=[]) (iE);have z2z:=Ln.mk (ls:=[8]) (Jo);refine fl ?_ ?_ ?_ ?_ ?_ ?_ ?_ ?_<;>first|(with_reducible exact True.intro)|intros
      all_goals(clear bo dh hid Ai hz iE uR wG LQ dN Jo Al)
      all_goals first
       |(rw[show R=(Bok.zero,Pfx.zero,3) from (by rw[aR.out];grind)];(try simp only[Xn,Xl]);exact dg)
       |(rw[show R=(Bok.zero,Pfx.zero,1) from (by rw[aR.out];grind)];(try simp only[Xn,Xl]);exact dg)
       |(rw[show R=(Bok.zero,Pfx.zero,2) from (by rw[aR.out];grind)];(try simp only[Xn,Xl]);exact dg)
       |(rw[show R=(⟨b.tick,l7 ⟨id,p.id,(dD p size).1,r,[]⟩ (b.pools.set i {p with leases:=iQ ⟨(dD p size).1,2,id,0⟩ p.leases})⟩,(dD p size).1,0) from (by rw[aR.out];grind)];(try simp only[Xn,Xl]);exact dg)
 ·have h1:(bn b !=0)=true:=by simpa using hc
  have hr:R=(Bok.zero,Pfx.zero,bn b):=by rw[hR.out];unfold gy;rw[ah hc]
  rw[hr];replace hr:=Xi hr;clear hR;refine pj func161 ntmps161 results161 ?_;refine aq ?_<;>intros;exact dg
theorem a4E {p:Prop}(h:p:=by
 obtain rfl:j=k:=aa;rw[kV]at hl';obtain rfl:=XU.inj hl';exact h1):p:=h
@[go_sem] def Lse.zero:Lse:=⟨Pfx.zero,0,0,0⟩
def im (b:Bok)(id:Int)(at_:Pfx):Option Lse:=match bK b id with|some p=>p.leases.find? (jW at_)|none=>none
def pL (o:Option Lse):D:=match o with|some l=> .tup [.agg (bc l),.v (.bool true)]|none=> .tup [.agg (bc Lse.zero),.v (.bool false)]
theorem RY {α:Type}{p:α->Bool}{l:List α}{k:Nat}{x:α}(hx:l[k]? =some x)(hp:p x=true)(bQ:∀j y,j < k->l[j]? =some y->p y=false):l.find? p=some x:=by
 rw[List.find?_eq_some_iff_getElem];obtain⟨hk,he⟩:=Xm.1 hx;exact⟨hp,k,hk,he,fun j hj=>by rw[bQ j _ hj (Xj aa)];rfl⟩
theorem RZ {α:Type}{p:α->Bool}{l:List α}(bQ:∀j y,j < l.length->l[j]? =some y->p y=false):l.find? p=none:=by
 rw[Yr];intro x hx;obtain⟨j,hj,rfl⟩:=XZ.1 hx;rw[bQ j _ hj (Xj hj)];simp
theorem Bk [Flo](b:Bok)(id:Int)(at_:Pfx)(hl:b.pools.length<=1000000000)(eP:∀q∈b.pools,q.leases.length<=1000000000):ai prog 39 [.agg (bj b),.v (.int .i64 id),.agg (aS at_)] (pL (im b id at_)):=by
 have dh:=iT b id aa;unfold im;cases hq:bK b id with
 |none=>
  rw[oE hq]at dh
  have Ac:decide ((-1:Int)>=0)=false:=rfl;replace hq:=Xi hq;simp only;refine pj func39 ntmps39 results39 ?_;refine aq ?_<;>intros;refine so ag am 0 (fun _=>True) (fun _=>[(9,.d (.v (.int .i64 0))),(8,.d (.v (.int .i64 (-1)))),(7,.d (.v (.bool false))),(6,.ptr 2 0),(5,.ptr 1 0),(3,.ptr 0 0)]) (fun _=>[.box 24 ((bj b).map .d),.box 32 ((aS at_).map .d),.box 68 ((bc Lse.zero).map .d)]) trivial (wf) (fun k hk=>absurd hk (Yy _)) ?_;intro _ C;exact aY;all_goals exact dg
 |some p=>
  obtain⟨i,e1,e2,e3⟩:=iS hq;rw[e1]at dh
  have mC:decide ((i:Int)>=0)=true:=ak;have a1O:=eP p (Xk e2);simp only;clear e1 e3 hq;refine pj func39 ntmps39 results39 ?_;refine aq ?_<;>intros;refine bq ag am p.leases (fun k=>∀j (l:Lse),j < k->p.leases[j]? =some l->jW at_ l=false) (fun k=>[(9,.d (.v (.int .i64 k))),(8,.d (.v (.int .i64 i))),(7,.d (.v (.bool false))),(6,.ptr 2 0),(5,.ptr 1 0),(3,.ptr 0 0)]) (fun _=>[.box 24 ((bj b).map .d),.box 32 ((aS at_).map .d),.box 68 ((bc Lse.zero).map .d)]) (fun j q h=>absurd h (Yy _)) (wf) ?_ ?_
  ·intro k l kV hk hI C hC;have dF:(k:Int) < (p.leases.length:Int):=aa;have cX:=wi k aa;have he:=nF l.at_ at_;have SV:jW at_ l=((l.kind==1)&&decide (l.at_=at_)):=rfl;have key:jW at_ l=false->∀j (l:Lse),j < k+1->p.leases[j]? =some l->jW at_ l=false:=by
    intro h1 j l' hj hl';rcases XL j k with h|h
    ·exact hI j l' h hl'
    ·exact a4E
   have F3:jW at_ l=true->p.leases.find? (jW at_)=some l:=fun h=>RY kV h hI;replace F3:=Xi F3;replace SV:=Xi SV;replace key:=Xi key;replace hI:=Xi hI;cases hd:decide (l.at_=at_);all_goals
    rw[hd]at he;refine zk ?_ ?_<;>intros;all_goals first
     |(refine hC _ _ (key.out ?_) (wf);(rw[SV.out];clear hC;simp_all;done))
     |(rw[F3.out (by rw[SV.out];clear hC;simp_all)];exact aO.refl _)
  ·intro hI C;rw[RZ hI];replace hI:=Xi hI;exact aY;all_goals exact dg
def fC (p:Pol)(at_:Pfx)(tick:Int)(l:Lse):Option Lse:=if l.at_=at_ then (if p.rule.cool=0 then none else some ⟨at_,3,0,tick+p.rule.cool⟩)else some l
theorem KW {p:Pol}{at_:Pfx}{tick:Int}{k:Nat}{l:Lse}(h:p.leases[k]? =some l):(p.leases.take (k+1)).filterMap (fC p at_ tick)=(p.leases.take k).filterMap (fC p at_ tick)++(fC p at_ tick l).toList:=by
 rw[aj h,List.filterMap_append];cases hb:fC p at_ tick l<;>simp[hb]
theorem Oy [Flo](ps:List Pol)(tick:Int)(i:Nat)(p:Pol)(at_:Pfx)(g:Nat)(hp:ps[i]? =some p)(hl:p.leases.length<=32)(vK:0<=p.rule.cool/\p.rule.cool<=1024)(ht:0<=tick/\tick<=1073741824):
 MSpec prog 170 [.ptr 0 0,.d (.v (.int .i64 i)),.d (.agg (aS at_))] [.box 24 [.d (.v (.int .i64 tick)),.own 1 g],.row 62 9 g (ab (ps.map al))] (.d (.tup []))
  [.box 24 [.d (.v (.int .i64 tick)),.own 1 g],.row 62 9 g (ab ((ps.set i {p with leases:=p.leases.filterMap (fC p at_ tick)}).map al)),.gone,.gone]:=by
 have hil:i < ps.length:=(Xm.1 hp).1;refine B9 ag am func170 rfl ntmps170 results170 aK ak (by simp[aw,ay]) (by simp[aL,aQ,aF,aw,ay]) ?_;refine aq ?_<;>intros;refine bq ag am p.leases (fun _=>True) (fun k=>[(7,.d (.v (.int .i64 k))),(6,.own 3 ((p.leases.take k).filterMap (fC p at_ tick)).length),(5,.ptr 2 0),(1,.d (.v (.int .i64 i))),(0,.ptr 0 0)])
  (fun k=>[.box 24 [.d (.v (.int .i64 tick)),.own 1 g],.row 62 9 g (ab (ps.map al)),.box 32 ((aS at_).map .d),.row 68 5 ((p.leases.take k).filterMap (fC p at_ tick)).length (ab (((p.leases.take k).filterMap (fC p at_ tick)).map bc))]) trivial ?_ ?_ ?_
 ·refine(du ak 6 68 5 rfl).trans ?_;exact wf (hh:=(by simp only[aS];rfl))
 ·intro k l kV hk _ C hC;have dF:(k:Int) < (p.leases.length:Int):=aa;have cX:=wi k aa;have hwc:IntKind.i64.wrap (tick+p.rule.cool)=tick+p.rule.cool:=by rw[IntKind.wrap_i64];omega
  have PL:=KW (at_:=at_) (tick:=tick) kV;have lI:((p.leases.take k).filterMap (fC p at_ tick)).length<=k:=Yj (List.length_filterMap_le _ _) (by rw[Xo];omega);generalize (p.leases.take k).filterMap (fC p at_ tick)=out at*;have jQ:out.length+1<=100:=aa;rw[PL]at hC;have he:=nF l.at_ at_;cases hd:decide (l.at_=at_)
  ·rw[hd]at he;have Ah:fC p at_ tick l=some l:=by unfold fC;rw[af (by simpa using hd)]
   rw[Ah]at hC;simp only[_j]at hC;clear PL Ah;refine aq ?_<;>intros;exact hC _ _ trivial (wf (hh:=(by simp only[aS,bc,Xn,Xl,Xp,XV,XC,XX];rfl)) (he:=(by(repeat' (first|exact trivial|(refine⟨?_,?_⟩)|rfl|(simp only[XV,XC,XX];rfl))))))
  ·rw[hd]at he;cases LG:p.rule.cool==0
   ·have Ah:fC p at_ tick l=some ⟨at_,3,0,tick+p.rule.cool⟩:=by unfold fC;rw[ah (by simpa using hd),af (by simpa using LG)]
    rw[Ah]at hC;simp only[_j]at hC;clear PL Ah;refine aq ?_<;>intros;exact hC _ _ trivial (wf (hh:=(by simp only[aS,bc,Xn,Xl,Xp,XV,XC,XX];rfl)) (he:=(by(repeat' (first|exact trivial|(refine⟨?_,?_⟩)|rfl|(simp only[XV,XC,XX];rfl))))))
   ·have Ah:fC p at_ tick l=none:=by unfold fC;rw[ah (by simpa using hd),ah (by simpa using LG)]
    rw[Ah]at hC;simp only[Option.toList_none,Yv]at hC;clear PL Ah;refine aq ?_<;>intros;exact hC _ _ trivial (wf (hh:=(by simp only[aS,bc,Xn,Xl,Xp,XV,XC,XX];rfl)) (he:=(by(repeat' (first|exact trivial|(refine⟨?_,?_⟩)|rfl|(simp only[XV,XC,XX];rfl))))))
 ·intro _ C;(try rw[Xq])
  refine aq ?_<;>intros;refine(av 3 _ 68 5 _ rfl).trans ?_;simp only[eM,fz,ee,dX,eF,d7,aD,aZ,bg,Xl,Xp,Xz,Xx,reduceIte,and_true,true_and,and_self,and_false,false_and,Xw,XG,reduceCtorEq,Ie];refine(aJ 2 ak).trans (aW rfl ?_);rw[<-bN];rfl
theorem Bl {p:Pol}{at_:Pfx}{tick:Int}{j:Nat}{l:Lse}(hs:p.leases.Pairwise fun a b=>a.at_.at_ < b.at_.at_)(hj:p.leases[j]? =some l)(hl:l.at_=at_):p.leases.filterMap (fC p at_ tick)=kO p j tick:=by
 obtain⟨hlt,he⟩:=Xm.1 hj;have hsp:p.leases=p.leases.take j++l::p.leases.drop (j+1):=by rw[<-he,Z6,YV]
 have hid:∀(ls:List Lse),(∀x∈ls,x.at_≠at_)->ls.filterMap (fC p at_ tick)=ls:=by
  intro ls h;induction ls with
  |nil=>rfl
  |cons a ls ih=>
   have ha:fC p at_ tick a=some a:=by unfold fC;rw[af (h a ak)]
   rw[List.filterMap_cons,ha];simp only;rw[ih fun x hx=>h x (by simp[hx])]
 have rP:=hs;rw[hsp,YQ,YA]at rP;have h1:=hid (p.leases.take j) (fun x hx e=>by have:=rP.2.2 x hx l ak;rw[e,hl]at this;omega);have h2:=hid (p.leases.drop (j+1)) (fun x hx e=>by have:=rP.2.1.1 x hx;rw[e,hl]at this;omega);have h3:p.leases.filterMap (fC p at_ tick)=p.leases.take j++((fC p at_ tick l).toList++p.leases.drop (j+1)):=by
  conv=>lhs;rw[hsp]
  rw[List.filterMap_append,h1,List.filterMap_cons,h2];cases fC p at_ tick l<;>rfl
 rw[h3];unfold fC kO;rw[ah hl,hj];split
 ·rw[YG];rfl
 ·simp only[hl,_j,List.singleton_append];rw[List.set_eq_take_append_cons_drop,ah hlt]
theorem E3 [Flo](b:Bok)(id:Int)(at_:Pfx)(hz:∀p∈b.pools,p.leases.length<=3518437208882):ai prog 84 [.agg (bj b),.v (.int .i64 id),.agg (aS at_)] (.tup [.agg (bj (fL b id at_).1),.v (.int .i64 (fL b id at_).2)]):=by
 obtain⟨R,hR⟩:∃R,R=fL b id at_:=⟨_,rfl⟩;rw[<-hR];replace hR:=Xi hR;have bo:=il b hz;by_cases hc:bn b=0
 ·have bW:=db hc;have h8:=bW.n8;have oJ:=Bk b id at_ aa (fun q hq=>by have:=bW.l32 q hq;omega);rw[hc]at bo;have no:im b id at_=none->R=(Bok.zero,5):=fun h=>by
   rw[hR.out];unfold fL;rw[af (by simpa using hc)];unfold im at h;cases hq:bK b id with
   |none=>rfl
   |some p=>
    rw[hq]at h;simp only at h ⊢;cases hf:p.leases.findIdx? (jW at_)with
    |none=>rfl
    |some j=>
     obtain⟨hj,h1,-⟩:=XK.1 hf;exact absurd h1 (Yr.1 h _ (Yl hj))
  cases uN:im b id at_ with
  |none=>
   rw[uN]at oJ;rw[no uN];simp only[pL]at oJ;clear no hR uN bW;refine pj func84 ntmps84 results84 ?_;refine aq ?_<;>intros;exact dg
  |some l=>
   rw[uN]at oJ;simp only[pL]at oJ;have iE:=iA b bW.n8 bW.l32;have dh:=iT b id aa;unfold im at uN;cases hq:bK b id with
   |none=>rw[hq]at uN;simp at uN
   |some p=>
    rw[hq]at uN;simp only at uN;obtain⟨i,e1,e2,e3⟩:=iS hq;subst e3;have p5:p∈b.pools:=Xk e2;have L6:=Oy b.pools b.tick i p at_ b.pools.length e2 (bW.l32 p p5) (qi (bW.mem p p5).2.2) bW.tick;have hr:R=(⟨b.tick,b.pools.set i {p with leases:=p.leases.filterMap (fC p at_ b.tick)}⟩,0):=by
     rw[hR.out];unfold fL;rw[af (by simpa using hc),hq];simp only;cases hf:p.leases.findIdx? (jW at_)with
     |none=>
      rw[Yn]at hf;have h1:=Zg uN;rw[hf l (YC uN)]at h1;exact absurd h1 ak
     |some j=>
      simp only;obtain⟨hj,h1,-⟩:=XK.1 hf;unfold jW at h1;simp only[Xv,decide_eq_true_eq]at h1;rw[ta bW.rise e2,Bl (ma (bW.mem p p5).2.1) (Xj hj) h1.2]
    rw[hr];rw[e1]at dh
    clear hr hR no uN hq bW e1 e2;refine pj func84 ntmps84 results84 ?_;have z1z:=Ln.mk (ls:=[]) (iE);have z2z:=Ln.mk (ls:=[8,7]) (L6);exact aY
 ·have h1:(bn b !=0)=true:=by simpa using hc
  have hr:R=(Bok.zero,bn b):=by rw[hR.out];unfold fL;rw[ah hc]
  rw[hr];replace hr:=Xi hr;clear hR;refine pj func84 ntmps84 results84 ?_;refine aq ?_<;>intros;exact dg
theorem E4 {l:List Pol}(hr:ox l){i j:Nat}{p q:Pol}(hp:l[i]? =some p)(hq:l[j]? =some q)(h:i≠j):p.id≠q.id:=by
 obtain⟨hi,rfl⟩:=Xm.1 hp;obtain⟨hj,rfl⟩:=Xm.1 hq;rcases V' h with h|h
 ·have:=XH.1 hr i j hi hj h;omega
 ·have:=XH.1 hr j i hj hi h;omega
theorem tb {l:List Pol}(hr:ox l){i:Nat}{p:Pol}(hp:l[i]? =some p):l.filter (fun q=>!(q.id==p.id))=l.eraseIdx i:=by
 obtain⟨hi,he⟩:=Xm.1 hp;have hsp:l=l.take i++p::l.drop (i+1):=by rw[<-he,Z6,YV]
 have h1:(l.take i).filter (fun q=>!(q.id==p.id))=l.take i:=YY.2 fun q hq=>by
  obtain⟨j,hj,rfl⟩:=XZ.1 hq;rw[Xo]at hj;have:=E4 hr (Xj (show j < l.length by omega)) hp aa;simpa using this
 have h2:(l.drop (i+1)).filter (fun q=>!(q.id==p.id))=l.drop (i+1):=YY.2 fun q hq=>by
  obtain⟨j,hj,rfl⟩:=XZ.1 hq;rw[XO]at hj;have:=E4 hr (Xj (show i+1+j < l.length by omega)) hp aa;simpa using this
 rw[YG];conv=>lhs;rw[hsp]
 rw[YT,h1,Zw,h2];simp
theorem Oz {l:List Pol}(hr:ox l){i:Nat}{p q:Pol}(hp:l[i]? =some p)(h:q.id=p.id):ox (l.set i q):=by
 unfold ox at hr ⊢;rw[XH]at hr ⊢;intro a c ha hc hac;simp only[YS]at ha hc;have h1:=hr a c ha hc hac;obtain⟨hi,he⟩:=Xm.1 hp;simp only[List.getElem_set];split<;>split
 ·omega
 ·rename_i e1 e2;subst e1;rw[h,<-he];exact h1
 ·rename_i e1 e2;subst e2;rw[h,<-he];exact h1
 ·exact h1
theorem Hi {α:Type}(l:List α)(i n:Nat)(hi:i < l.length)(hn:n=l.length):(aC l i ((l.drop (i+1)).take (n - (i+1)))).take (i+min (n - (i+1)) (n - (i+1)))=l.eraseIdx i:=by
 subst hn;have h1:(l.drop (i+1)).take (l.length - (i+1))=l.drop (i+1):=XM (by rw[XO];omega);rw[h1,Zt,YG];unfold aC;rw[Ym aN,XM aN]
structure CutB (ps:List Pol)(i n:Nat):Prop where
 ne:¬ab (ps.map al)=[]
 ne2:¬aC (ab (ps.map al)) i (((ab (ps.map al)).drop (i+1)).take (n - (i+1)))=[]
 len:(aC (ab (ps.map al)) i (((ab (ps.map al)).drop (i+1)).take (n - (i+1)))).length=n
 cut:(aC (ab (ps.map al)) i (((ab (ps.map al)).drop (i+1)).take (n - (i+1)))).take (i+min (n - (i+1)) (n - (i+1)))=ab ((ps.eraseIdx i).map al)
theorem WG {ps:List Pol}{i n:Nat}(hi:i < n)(hn:n=ps.length):CutB ps i n:=by
 have hl:(ab (ps.map al)).length=ps.length:=by simp[aH]
 have h2:=mE (ab (ps.map al)) i (i+1) n aa rfl aa;refine⟨fun h=>?_,fun h=>?_,by omega,?_⟩
 ·rw[h]at hl;simp at hl;omega
 ·rw[h]at h2;simp at h2;omega
 ·rw[Hi _ i n aa aa];unfold ab;rw[gD,gD]
theorem E5 {b:Bok}(bW:BookOK b){p u:Pol}{i j:Nat}(hq:bK b p.id=some p)(hi:b.pools[i]? =some p)(hu:bK b p.up=some u)(hj:b.pools[j]? =some u)(a0t:u.id=p.up):
 i≠j/\ja b p=b.pools.set j {u with leases:=u.leases.filterMap (fC u p.root b.tick)}:=by
 have p5:p∈b.pools:=Xk hi;have LL:u∈b.pools:=Xk hj;have h0:∀q∈b.pools,q.id≠0:=fun q hq e=>by have:=(bW.mem q hq).1;rw[e]at this;simp[dZ]at this
 have gM:=(ki _ _ bW.second p p5).1;refine⟨?_,?_⟩
 ·rintro rfl;rw[hi]at hj;obtain rfl:=XU.inj hj;rw[Cs hq (h0 p p5) a0t.symm b.pools.length]at gM;exact absurd gM ak
 ·have jO:=IJ gM (by rw[<-a0t];exact h0 u LL) hu;unfold ja;rw[hu];simp only;cases hf:u.leases.findIdx? (mw p.id)with
  |none=>
   rw[Yn]at hf;obtain⟨x,hx,nS⟩:=XR.1 jO;rw[hf x hx]at nS;exact absurd nS ak
  |some k=>
   simp only;obtain⟨hk,h1,-⟩:=XK.1 hf;have bD:=(ki _ _ bW.second u LL).2 _ (Yl hk);unfold mw at h1;simp only[Xv,beq_iff_eq]at h1;have dh:u.leases[k].at_=p.root:=by
    unfold fg at bD;rw[af (by simp[h1.1]),ah (by simp[h1.1]),h1.2,hq]at bD;simp only[Xv,decide_eq_true_eq]at bD;exact bD.2.1.symm
   rw[ta bW.rise hj,Bl (ma (bW.mem u LL).2.1) (Xj hk) dh]
theorem KX [Flo](b:Bok)(id:Int)(hz:∀p∈b.pools,p.leases.length<=3518437208882):ai prog 162 [.agg (bj b),.v (.int .i64 id)] (.tup [.agg (bj (fM b id).1),.v (.int .i64 (fM b id).2)]):=by
 obtain⟨R,hR⟩:∃R,R=fM b id:=⟨_,rfl⟩;rw[<-hR];replace hR:=Xi hR;have bo:=il b hz;by_cases hc:bn b=0
 ·have bW:=db hc;have h8:=bW.n8;have dh:=iT b id aa;rw[hc]at bo;cases hq:bK b id with
  |none=>
   have hr:R=(Bok.zero,5):=by rw[hR.out];unfold fM;rw[af (by simpa using hc),hq]
   rw[hr];rw[oE hq]at dh
   have Ac:decide ((-1:Int) < 0)=true:=rfl;clear hr hR hq bW hc;refine pj func162 ntmps162 results162 ?_;refine aq ?_<;>intros;exact dg
  |some p=>
   obtain⟨i,e1,e2,e3⟩:=iS hq;subst e3;have p5:p∈b.pools:=Xk e2;have SZ:i < b.pools.length:=(Xm.1 e2).1;have iE:=iA b bW.n8 bW.l32;have uR:=iT b p.up aa;have mC:decide ((i:Int) < 0)=false:=ak;have gz:=bW.l32 p p5;rw[e1]at dh
   have aR:R=if (p.leases.any fun l=>l.kind !=3)=true then (Bok.zero,9)else (⟨b.tick,(ja b p).filter fun q=>!(q.id==p.id)⟩,0):=a4V
   replace aR:=Xi aR;clear hR;refine pj func162 ntmps162 results162 ?_;refine aq ?_<;>intros;refine bq ag am p.leases (fun k=>∀j (l:Lse),j < k->p.leases[j]? =some l->(l.kind !=3)=false) (fun k=>[(8,.d (.v (.int .i64 k))),(7,.d (.v (.int .i64 i))),(5,.d (.v (.int .i64 0))),(4,.ptr 1 0),(2,.ptr 0 0),(1,.d (.v (.int .i64 p.id)))])
    (fun _=>[.box 24 ((bj b).map .d),.box 24 [.d (.v (.int .i64 0)),.d (.v (.slice none 0 0))]]) (fun j q h=>absurd h (Yy _)) (wf) ?_ ?_
   ·intro k l kV hk hI C hC;have dF:(k:Int) < (p.leases.length:Int):=aa;have cX:=wi k aa;replace hI:=Xi hI;refine zk ?_ ?_<;>intros
    ·rename_i h1;have jO:(p.leases.any fun l=>l.kind !=3)=true:=XR.2 ⟨l,Xk kV,h1⟩;clear hC hI hz bo dh uR iE bW;(rw[show R=(Bok.zero,9) from (by rw[aR.out];grind)];(try simp only[Xn,Xl]);exact dg)
    ·rename_i h1;refine hC _ _ (fun j l' hj hl'=>?_) (wf);rcases XL j k with h|h
     ·exact hI.out j l' h hl'
     ·exact a4E
   ·intro hI C;have jO:(p.leases.any fun l=>l.kind !=3)=false:=by
     rw[Yh];intro l hl;obtain⟨j,hj,rfl⟩:=XZ.1 hl;rw[hI j _ hj (Xj hj)];simp
    have gn:=aR.out;rw[jO]at gn;simp only[Yz,if_false]at gn;replace hI:=Xi hI;replace jO:=Xi jO;have Ai:=wi i aa;cases hu:bK b p.up with
    |none=>
     rw[oE hu]at uR;have Ac:decide ((-1:Int)>=0)=false:=rfl;have gB:ja b p=b.pools:=by unfold ja;rw[hu]
     rw[gB,tb bW.rise e2]at gn;replace aR:=Xi gn;clear gn gB hu bW hq hc;have a1s:i<=b.pools.length:=aa;have hle2:i+1<=b.pools.length:=aa;have Vz:i+(b.pools.length - (i+1))<=b.pools.length:=aa;have a1t:i+min (b.pools.length - (i+1)) (b.pools.length - (i+1))<=b.pools.length:=by rw[Zt];exact Vz
     obtain⟨bG,FR,rS,hcut⟩:=WG (ps:=b.pools) SZ rfl;have LC:0 < b.pools.length:=aa;have z1z:=@Xo.{0};have z2z:=@XO.{0};have z3z:=Ln.mk (ls:=[]) (iE);refine fl ?_ ?_ ?_ ?_ ?_ ?_ ?_ ?_<;>first|(with_reducible exact True.intro)|intros
     all_goals clear hz bo dh uR iE bG FR hcut rS
     rw[aR.out];first|done|exact aO.refl _
    |some u=>
     obtain⟨j,f1,f2,f3⟩:=iS hu;obtain⟨hij,gB⟩:=E5 bW hq e2 hu f2 f3;have LL:u∈b.pools:=Xk f2;have L6:=Oy b.pools b.tick j u p.root b.pools.length f2 (bW.l32 u LL) (qi (bW.mem u LL).2.2) bW.tick;have zf:(b.pools.set j {u with leases:=u.leases.filterMap (fC u p.root b.tick)})[i]? =some p:=by rw[C' (Ne.symm hij)];exact e2
     rw[f1]at uR;have W3:decide ((j:Int)>=0)=true:=ak;rw[gB,tb (Oz bW.rise f2 (by rfl)) zf]at gn;replace aR:=Xi gn;clear gn gB hu bW hq hc zf f1 f2 f3 hij;have a1s:i<=b.pools.length:=aa;have hle2:i+1<=b.pools.length:=aa;have Vz:i+(b.pools.length - (i+1))<=b.pools.length:=aa;have a1t:i+min (b.pools.length - (i+1)) (b.pools.length - (i+1))<=b.pools.length:=by rw[Zt];exact Vz
     obtain⟨bG,FR,rS,hcut⟩:=WG (ps:=b.pools.set j {u with leases:=u.leases.filterMap (fC u p.root b.tick)}) SZ ak;have LC:0 < b.pools.length:=aa;have z1z:=@Xo.{0};have z2z:=@XO.{0};have z3z:=Ln.mk (ls:=[]) (iE);have z4z:=Lm.mk (Ln.mk (ls:=[6,5]) (L6));refine fl ?_ ?_ ?_ ?_ ?_ ?_ ?_ ?_<;>first|(with_reducible exact True.intro)|intros
     all_goals clear hz bo dh uR iE bG FR hcut rS L6
     rw[aR.out];first|done|exact aO.refl _
 ·have h1:(bn b !=0)=true:=by simpa using hc
  have hr:R=(Bok.zero,bn b):=by rw[hR.out];unfold fM;rw[ah hc]
  rw[hr];replace hr:=Xi hr;clear hR;refine pj func162 ntmps162 results162 ?_;refine aq ?_<;>intros;exact dg
def oP (b:Bok)(t:Int)(k:Nat):List Pol:=(b.pools.take k).map (fA t)++b.pools.drop k
theorem KY (b:Bok)(t:Int)(k:Nat)(hk:k<=b.pools.length):(oP b t k).length=b.pools.length:=by
 unfold oP;simp;omega
theorem KZ {b:Bok}{t:Int}{k:Nat}{p:Pol}(hp:b.pools[k]? =some p):(oP b t k)[k]? =some p:=by
 have hk:=(Xm.1 hp).1;unfold oP;rw[XI aN];simp only[Xs,Xo,Yk];rw[show k+(k - min k b.pools.length)=k by omega,hp]
theorem K0 {b:Bok}{t:Int}{k:Nat}{p:Pol}(hp:b.pools[k]? =some p):(oP b t k).set k (fA t p)=oP b t (k+1):=by
 have hk:=(Xm.1 hp).1;unfold oP;rw[Yu _ _ aN,aj hp,Xn,kg hp];simp only[Xs,Xo];rw[show k - min k b.pools.length=0 by omega];simp
theorem Hj {α:Type}{p:α->Bool}{l:List α}{k:Nat}{x:α}(h:l[k]? =some x):(l.take (k+1)).filter p=(l.take k).filter p++if p x then [x]else []:=by
 rw[aj h,YT];cases hp:p x<;>simp[hp]
theorem OA [Flo](b:Bok)(n:Int)(hz:∀p∈b.pools,p.leases.length<=3518437208882):ai prog 163 [.agg (bj b),.v (.int .i64 n)] (.tup [.agg (bj (jJ b n).1),.v (.int .i64 (jJ b n).2)]):=by
 obtain⟨R,hR⟩:∃R,R=jJ b n:=⟨_,rfl⟩;rw[<-hR];replace hR:=Xi hR;have bo:=il b hz;by_cases hc:bn b=0
 ·have bW:=db hc;have h8:=bW.n8;have ht:=bW.tick;have hws:IntKind.i64.wrap (1073741824 - b.tick)=1073741824 - b.tick:=by rw[IntKind.wrap_i64];omega
  have Ai:=eJ n 1 (1073741824 - b.tick);rw[hc]at bo;by_cases hn:n < 1\/n>1073741824 - b.tick
  ·have hr:R=(Bok.zero,3):=by rw[hR.out];unfold jJ;rw[af (by simpa using hc),ah hn]
   have hd:(decide (1<=n)&&decide (n<=1073741824 - b.tick))=false:=by
    rcases hn with h|h
    ·simp;omega
    ·simp;omega
   rw[hr];rw[hd]at Ai;clear hr hR hd hn bW hc;refine pj func163 ntmps163 results163 ?_;refine aq ?_<;>intros;exact dg
  ·have hr:R=(⟨b.tick+n,b.pools.map (fA (b.tick+n))⟩,0):=by rw[hR.out];unfold jJ;rw[af (by simpa using hc),af hn]
   have hd:(decide (1<=n)&&decide (n<=1073741824 - b.tick))=true:=aN;have SU:IntKind.i64.wrap (b.tick+n)=b.tick+n:=by rw[IntKind.wrap_i64];omega
   have iE:=iA b bW.n8 bW.l32;have nP:=bW.l32;rw[hr];rw[hd]at Ai;clear hr hR hd hn bW hc;refine pj func163 ntmps163 results163 ?_;have z1z:=Ln.mk (ls:=[]) (iE);refine aq ?_<;>intros;refine so ag am b.pools.length (fun _=>True) (fun k=>[(8,.d (.v (.int .i64 k))),(7,.ptr 6 0),(5,.d (.v (.int .i64 0))),(4,.ptr 1 0)])
    (fun k=>[.box 24 ((bj b).map .d),.box 24 [.d (.v (.int .i64 0)),.d (.v (.slice none 0 0))],.gone,.gone,.gone,.row 62 9 b.pools.length (ab ((oP b (b.tick+n) k).map al)),.box 24 [.d (.v (.int .i64 (b.tick+n))),.own 5 b.pools.length]]) trivial ?_ ?_ ?_
   ·exact wf (hh:=(by simp only[bj,oP,p',Xp,X8,List.drop_zero];rfl))
   ·intro k hk _ C hC;obtain⟨p,hp⟩:∃p,b.pools[k]? =some p:=⟨_,Xj hk⟩;have dF:(k:Int) < (b.pools.length:Int):=aa;have cX:=wi k aa;have hg:=KZ (t:=b.tick+n) hp;have hs:=K0 (t:=b.tick+n) hp;have wF:=KY b (b.tick+n) k aa;have gz:=nP p (Xk hp);rw[<-hs]at hC;generalize oP b (b.tick+n) k=ps at*;have hks:k < ps.length:=aa;clear hs;refine aq ?_<;>intros;refine bq ag am p.leases (fun _=>True) (fun j=>[(10,.d (.v (.int .i64 j))),(9,.own 7 ((p.leases.take j).filter fun l=>!kP (b.tick+n) l).length),(8,.d (.v (.int .i64 k))),(7,.ptr 6 0),(5,.d (.v (.int .i64 0))),(4,.ptr 1 0)])
     (fun j=>[.box 24 ((bj b).map .d),.box 24 [.d (.v (.int .i64 0)),.d (.v (.slice none 0 0))],.gone,.gone,.gone,.row 62 9 b.pools.length (ab (ps.map al)),.box 24 [.d (.v (.int .i64 (b.tick+n))),.own 5 b.pools.length],.row 68 5 ((p.leases.take j).filter fun l=>!kP (b.tick+n) l).length (ab (((p.leases.take j).filter fun l=>!kP (b.tick+n) l).map bc))]) trivial ?_ ?_ ?_
    ·refine(du ak 9 68 5 rfl).trans ?_;exact wf (hh:=(by simp only[bj];rfl))
    ·intro j l qt hj _ C hC;have lh:(j:Int) < (p.leases.length:Int):=aa;have mW:=wi j aa;have oK:=Hj (p:=fun l=>!kP (b.tick+n) l) qt;have lI:((p.leases.take j).filter fun l=>!kP (b.tick+n) l).length<=j:=Yj (Y8 _ _) (by rw[Xo];omega);rw[oK]at hC;generalize (p.leases.take j).filter (fun l=>!kP (b.tick+n) l)=out at*;have jQ:out.length+1<=100:=aa;have ec:kP (b.tick+n) l=((l.kind==3)&&decide (l.till<=b.tick+n)):=rfl;replace ec:=Xi ec;clear oK;cases ho:kP (b.tick+n) l;all_goals
      rw[ho]at hC;have ec:=ec.out;rw[ho]at ec;replace ec:=Xi ec;simp only[Bool.not_false,Z7,Yz,if_true,if_false,Yv]at hC;replace ho:=Xi ho;refine fl ?_ ?_ ?_ ?_ ?_ ?_ ?_ ?_<;>first|(with_reducible exact True.intro)|intros
      all_goals first
       |(exfalso;have:=ec.out;clear hC;grind)
       |exact hC _ _ trivial (wf (hh:=(by simp only[bj,bc,Xn,Xl,Xp,XV,XC,XX];rfl)) (he:=(by(repeat' (first|exact trivial|(refine⟨?_,?_⟩)|rfl|(simp only[XV,XC,XX];rfl))))))
    ·intro _ C1;(try rw[Xq])
     refine aq ?_<;>intros;refine hC _ _ trivial ((av 7 _ 68 5 _ rfl).trans ?_);simp only[eM,fz,ee,dX,eF,d7,aD,aZ,bg,Xl,Xp,Xz,Xx,reduceIte,and_true,true_and,and_self,and_false,false_and,Xw,XG,reduceCtorEq,Ie];exact wf (x:=[.gone]) (hh:=(by rw[<-bN];rfl))
   ·intro _ C;have he:oP b (b.tick+n) b.pools.length=b.pools.map (fA (b.tick+n)):=by unfold oP;simp
    rw[he];repeat' (first|(with_reducible refine And.intro ?_ ?_)|(with_reducible refine og (fun _=>?_) (fun _=>?_))|(with_reducible refine ef (fun _=>?_) (fun _=>?_))|(with_reducible refine jA aK)|simp -dsimp only[go_sem,seval, *,bj,Zz,Xs]|((with_reducible refine jB ?_);simp -dsimp only[go_sem,seval,bj,Zz,Xs];first|refine ei L8 mR ?_|(refine eh gR ?_ ?_ ?_;(solve|(repeat(first|exact aO.refl _|exact aO.nil _|(refine aO.tup ?_)|(refine aO.agg ?_ rfl)|exact trivial|(refine And.intro ?_ ?_))));(solve|exact .inl rfl|exact .inr rfl)))|fail|omega|exact decide_eq_true aa|exact aO.refl _)
 ·have h1:(bn b !=0)=true:=by simpa using hc
  have hr:R=(Bok.zero,bn b):=by rw[hR.out];unfold jJ;rw[ah hc]
  rw[hr];replace hr:=Xi hr;clear hR;refine pj func163 ntmps163 results163 ?_;refine aq ?_<;>intros;exact dg
theorem a4W {p:Prop}(h:p:=by
 exact⟨hk.1,fun q hq=>by have:=hk.2 q hq;omega⟩):p:=h
def mf (b:Bok):Prop:=b.pools.length<=1000000000/\∀p∈b.pools,p.leases.length<=1000000000
theorem E6 [Flo](b:Bok)(hs:mf b):ai prog 41 [.agg (bj b),.agg (bj b)] (.v (.bool true)):=by
 have hl:=hs.1;refine pj func41 ntmps41 results41 ?_;refine aq ?_<;>intros;refine bq ag am b.pools (fun _=>True) (fun k=>[(5,.d (.v (.int .i64 k))),(4,.d (.v (.bool false))),(3,.ptr 1 0),(2,.ptr 0 0)]) (fun _=>[.box 24 ((bj b).map .d),.box 24 ((bj b).map .d)]) trivial (wf) ?_ ?_
 ·intro k p hp hk _ C hC;have dF:(k:Int) < (b.pools.length:Int):=aa;have cX:=wi k aa;have gz:=hs.2 p (Xk hp);refine aq ?_<;>intros;refine bq ag am p.leases (fun _=>True) (fun j=>[(8,.d (.v (.int .i64 j))),(7,.ptr 3 0),(6,.ptr 2 0),(5,.d (.v (.int .i64 k))),(4,.d (.v (.bool false))),(3,.ptr 1 0),(2,.ptr 0 0)]) (fun _=>[.box 24 ((bj b).map .d),.box 24 ((bj b).map .d),.box 62 ((al p).map .d),.box 62 ((al p).map .d)]) trivial (wf) ?_ ?_
  ·intro j l qt hj _ C hC;have lh:(j:Int) < (p.leases.length:Int):=aa;have mW:=wi j aa;refine aq ?_<;>intros;exact hC _ _ trivial (wf)
  ·intro _ C;refine aq ?_<;>intros;exact hC _ _ trivial (wf)
 ·intro _ C;exact aY
@[go_sem] def OB:Rul:=⟨8,16,12,3⟩
theorem R2 [Flo]:ai prog 86 [] (.agg (vV OB)):=by
 refine pj func86 ntmps86 results86 ?_;exact aY
theorem bT:mf Bok.zero:=⟨XE _,fun p hp=>by simp[Bok.zero]at hp⟩
theorem nM {b:Bok}(h:BookOK b):b.pools.length<=8/\∀p∈b.pools,p.leases.length<=32:=⟨h.n8,h.l32⟩
theorem E7 (p:Pol)(ps:List Pol):(l7 p ps).length=ps.length+1:=by
 have:=qg (fun x:Pol=>x.id) p.id ps;unfold l7;simp;omega
theorem E8 {p q:Pol}{ps:List Pol}(h:q∈l7 p ps):q=p\/q∈ps:=by
 unfold l7 at h;simp only[X0,XY]at h;rcases h with h|h|h
 ·exact .inr (Yf h)
 ·exact .inl h
 ·exact .inr (Yd h)
theorem E9 (l:Lse)(ls:List Lse):(iQ l ls).length=ls.length+1:=by
 have:=qg (fun x:Lse=>x.at_.at_) l.at_.at_ ls;unfold iQ;simp;omega
theorem Bm (p:Pol)(i:Nat)(t:Int):(kO p i t).length<=p.leases.length:=by
 unfold kO;split
 ·rw[D'];split<;>omega
 ·split
  ·rw[YS];exact XA _
  ·exact XA _
theorem oF {b:Bok}{id:Int}{f:Pol->Pol}(h:b.pools.length<=8)(h2:∀p∈b.pools,p.leases.length<=32/\(f p).leases.length<=33):(sS b id f).pools.length<=8/\∀p∈(sS b id f).pools,p.leases.length<=33:=by
 unfold sS;refine⟨by simpa using h,fun p hp=>?_⟩;obtain⟨q,hq,rfl⟩:=XF.1 hp;split
 ·exact(h2 q hq).2
 ·have:=(h2 q hq).1;omega
theorem Bn {b:Bok}{id:Int}{f:Pol->Pol}(h:(sS b id f).pools.length<=8/\∀p∈(sS b id f).pools,p.leases.length<=33):mf (sS b id f):=⟨by have:=h.1;omega,fun q hq=>by have:=h.2 q hq;omega⟩
theorem K4 {b:Bok}{t:Int}{p:Pol}(h:b.pools.length<=8/\∀p∈b.pools,p.leases.length<=33)(hp:p.leases=[]):mf ⟨t,l7 p b.pools⟩:=⟨by simp only[E7];omega,fun q hq=>by
 rcases E8 hq with rfl|hq
 ·rw[hp];exact XE _
 ·have:=h.2 q hq;omega⟩
theorem Fa (b:Bok)(id:Int)(root:Pfx)(r:Rul):mf (gx b id root r).1:=by
 unfold gx;split
 ·exact bT
 ·rename_i hc;have hk:=nM (db (by simpa using hc));split
  ·exact bT
  ·refine⟨by simp only[E7];omega,fun p hp=>?_⟩;rcases E8 hp with rfl|hp
   ·exact XE _
   ·have:=hk.2 p hp;omega
theorem Fb (b:Bok)(id up size:Int)(r:Rul):mf (gy b id up size r).1:=by
 unfold gy;split
 ·exact bT
 ·rename_i hc;have hk:=nM (db (by simpa using hc));split
  ·exact bT
  ·split
   ·exact bT
   ·split
    ·exact bT
    ·split
     ·exact bT
     ·split
      ·exact bT
      ·split
       ·exact bT
       ·exact K4 (oF hk.1 (fun q hq=>⟨hk.2 q hq,by simp only[E9];have:=hk.2 q hq;omega⟩)) rfl
theorem vB (b:Bok)(id size owner:Int):mf (cQ b id size owner).1:=by
 unfold cQ;split
 ·exact bT
 ·rename_i hc;have hk:=nM (db (by simpa using hc));split
  ·exact bT
  ·split
   ·exact bT
   ·rename_i p _ _;generalize cy p (if size=0 then p.rule.usual else size)=F;simp only;split
    ·exact bT
    ·exact Bn (oF hk.1 (fun q hq=>⟨hk.2 q hq,by simp only[E9];have:=hk.2 q hq;omega⟩))
theorem vC (b:Bok)(id:Int)(at_:Pfx):mf (fL b id at_).1:=by
 unfold fL;split
 ·exact bT
 ·rename_i hc;have hk:=nM (db (by simpa using hc));split
  ·exact bT
  ·split
   ·exact bT
   ·rename_i i _;exact Bn (oF hk.1 (fun q hq=>⟨hk.2 q hq,by have:=hk.2 q hq;have:=Bm q i b.tick;simp only;omega⟩))
theorem Cw (b:Bok)(id:Int):mf (fM b id).1:=by
 unfold fM;split
 ·exact bT
 ·rename_i hc;have hk:=nM (db (by simpa using hc));split
  ·exact bT
  ·split
   ·exact bT
   ·rename_i p _ _;have gB:(ja b p).length<=8/\∀q∈ja b p,q.leases.length<=33:=by
     unfold ja;split
     ·exact a4W
     ·split
      ·rename_i u _ _ i _;exact oF (b:=b) (id:=u.id) (f:=fun q=>{q with leases:=kO q i b.tick}) hk.1 (fun q hq=>⟨hk.2 q hq,by have:=hk.2 q hq;have:=Bm q i b.tick;simp only;omega⟩)
      ·exact a4W
    exact⟨by have:=Y8 (fun q:Pol=>!(q.id==id)) (ja b p);simp only;omega,fun q hq=>by have:=gB.2 q (Zv.1 hq).1;omega⟩
theorem Fc (b:Bok)(n:Int):mf (jJ b n).1:=by
 unfold jJ;split
 ·exact bT
 ·rename_i hc;have hk:=nM (db (by simpa using hc));split
  ·exact bT
  ·refine⟨by simp only[Xs];omega,fun q hq=>?_⟩;obtain⟨p,hp,rfl⟩:=XF.1 hq;have:=hk.2 p hp;have:=Y8 (fun l=>!kP (b.tick+n) l) p.leases;simp only[fA];omega
def Hk (s:Sbn):Prop:=s.faces.length<=1000000000/\∀f∈s.faces,f.addrs.length<=1000000000
def oG (v:Vpc):Prop:=v.ranges.length<=1000000000/\v.subs.length<=1000000000/\∀s∈v.subs,Hk s
theorem bB:oG Vpc.zero:=⟨XE _,XE _,fun s h=>by simp[Vpc.zero]at h⟩
theorem qk {v:Vpc}(h:VpcOK v):∀s∈v.subs,Hk s:=fun s hs=>⟨by have:=(h.n8 s hs).1;omega,fun f hf=>by have:=(h.n8 s hs).2 f hf;omega⟩
theorem rI {v:Vpc}(h:VpcOK v){i:Nat}{s:Sbn}(hs:Hk s):oG {v with subs:=v.subs.set i s}:=⟨by have:=h.n4;show v.ranges.length<=_;omega,by have:=h.n6;show (v.subs.set i s).length<=_;rw[YS];omega,fun t ht=>by
 rcases Y4 ht with ht|rfl
 ·exact qk h t ht
 ·exact hs⟩
theorem Fd (v:Vpc)(p:Pfx):oG (dU v p).1:=by
 unfold dU;split
 ·exact bB
 ·rename_i hc;have hk:=be (by simpa using hc);split
  ·exact bB
  ·split
   ·exact bB
   ·exact⟨by have:=hk.n4;show (v.ranges.eraseIdx _).length<=_;rw[D'];split<;>omega,by have:=hk.n6;show v.subs.length<=_;omega,fun s hs=>qk hk s hs⟩
theorem Hl (v:Vpc)(id:Int)(p:Pfx):oG (oW v id p).1:=by
 unfold oW;split
 ·exact bB
 ·rename_i hc;have hk:=be (by simpa using hc);split
  ·exact bB
  ·refine⟨by have:=hk.n4;show v.ranges.length<=_;omega,by have:=hk.n6;show (dn _ _ v.subs).length<=_;rw[fK];omega,fun s hs=>?_⟩;rcases ny.1 hs with rfl|hs
   ·exact⟨XE _,fun f hf=>by simp at hf⟩
   ·exact qk hk s hs
theorem Cy (v:Vpc)(id:Int):oG (fO v id).1:=by
 unfold fO;split
 ·exact bB
 ·rename_i hc;have hk:=be (by simpa using hc);split
  ·exact bB
  ·split
   ·exact bB
   ·exact⟨by have:=hk.n4;show v.ranges.length<=_;omega,by have:=hk.n6;show (v.subs.eraseIdx _).length<=_;rw[D'];split<;>omega,fun s hs=>qk hk s (List.mem_of_mem_eraseIdx hs)⟩
theorem Fe (v:Vpc)(sub id:Int):oG (ik v sub id).1:=by
 unfold ik;split
 ·exact bB
 ·rename_i hc;have hk:=be (by simpa using hc);split
  ·exact bB
  ·split
   ·exact bB
   ·rename_i s hs;have h8:=hk.n8 s (Xk hs);split
    ·exact bB
    ·refine rI hk ⟨by show (dn _ _ s.faces).length<=_;rw[fK];omega,fun f hf=>?_⟩;rcases ny.1 hf with rfl|hf
     ·show 1<=1000000000;omega
     ·have:=h8.2 f hf;omega
theorem zS (v:Vpc)(sub id:Int):oG (d6 v sub id).1:=by
 unfold d6;split
 ·exact bB
 ·rename_i hc;have hk:=be (by simpa using hc);split
  ·exact bB
  ·split
   ·exact bB
   ·rename_i s hs;have h8:=hk.n8 s (Xk hs);split
    ·exact bB
    ·exact rI hk ⟨by show (s.faces.eraseIdx _).length<=_;rw[D'];split<;>omega,fun f hf=>by have:=h8.2 f (List.mem_of_mem_eraseIdx hf);omega⟩
theorem Ff (v:Vpc)(sub id:Int):oG (gP v sub id).1:=by
 unfold gP;split
 ·exact bB
 ·rename_i hc;have hk:=be (by simpa using hc);split
  ·exact bB
  ·split
   ·exact bB
   ·rename_i s hs;have h8:=hk.n8 s (Xk hs);split
    ·exact bB
    ·split
     ·exact bB
     ·rename_i f hf;have ip:=h8.2 f (Xk hf);split
      ·exact bB
      ·split
       ·exact bB
       ·refine rI hk ⟨by show (s.faces.set _ _).length<=_;rw[YS];omega,fun g hg=>?_⟩;rcases Y4 hg with hg|rfl
        ·have:=h8.2 g hg;omega
        ·show (dn _ _ f.addrs).length<=_;rw[fK];omega
theorem a2X {p:Prop}(h:p:=by
 intro hI C;replace hI:=Xi hI;refine aq ?_<;>intros;exact sH (Ce hI.out).symm):p:=h
theorem a3o {p:Prop}(h:p:=by
 rename_i h1;exact hC _ _ (en hp hI.out (by simpa using h1)) (wf)):p:=h
theorem a3w {p:Prop}(h:p:=by
 rename_i h1;exact sH (xI hp (by simpa using h1) hI.out).symm):p:=h
theorem iB [Flo](n:Net)(id:Int)(hl:n.vpcs.length<=1000000000):ai prog 24 [.agg (cN n),.v (.int .i64 id)] (.v (.int .i64 (cq (fun v=>v.id==id) n.vpcs))):=by
 refine pj func24 ntmps24 results24 ?_;refine aq ?_<;>intros;refine bq ag am n.vpcs (fun k=>(n.vpcs.take k).all (fun v=>!(v.id==id))=true) (fun k=>[(5,.d (.v (.int .i64 k))),(4,.d (.v (.int .i64 0))),(2,.ptr 0 0),(1,.d (.v (.int .i64 id)))]) (fun _=>[.box 28 ((cN n).map .d)]) rfl (wf) ?_ ?_
 ·intro k p hp hk hI C hC;have dF:(k:Int) < (n.vpcs.length:Int):=aa;have cX:=wi k aa;replace hI:=Xi hI;refine zk ?_ ?_<;>intros
  ·exact a3w
  ·exact a3o
 ·exact a2X
theorem kQ (n:Net)(id:Int):cq (fun v=>v.id==id) n.vpcs=match fk n id with|some i=>(i:Int)|none=> -1:=rfl
def kD (n:Net)(a b:Int):Bool:=n.links.any fun y=>decide (y=fX a b)
theorem uE [Flo](n:Net)(a b:Int)(hl:n.links.length<=1000000000):ai prog 165 [.agg (cN n),.v (.int .i64 a),.v (.int .i64 b)] (.v (.bool (kD n a b))):=by
 obtain⟨R,hR⟩:∃R,R=kD n a b:=⟨_,rfl⟩;rw[<-hR];replace hR:=Xi hR;refine pj func165 ntmps165 results165 ?_;refine aq ?_<;>intros;refine bq ag am n.links (fun k=>(n.links.take k).all (fun y=>!decide (y=fX a b))=true) (fun k=>[(7,.d (.v (.int .i64 k))),(6,.d (.v (.bool false))),(3,.ptr 0 0),(2,.d (.v (.int .i64 b))),(1,.d (.v (.int .i64 a)))]) (fun _=>[.box 28 ((cN n).map .d)]) rfl (wf) ?_ ?_
 ·intro k p hp hk hI C hC;have dF:(k:Int) < (n.links.length:Int):=aa;have cX:=wi k aa;have he:([p.a,p.b]==[if b < a then b else a,if a < b then b else a])=decide (p=fX a b):=yj p (fX a b);have H3:decide (p=fX a b)=true->R=true:=fun h=>by rw[hR.out];exact XR.2 ⟨p,Xk hp,h⟩
  have bQ:decide (p=fX a b)=false->(n.links.take (k+1)).all (fun y=>!decide (y=fX a b))=true:=fun h=>en hp hI (by simpa using h);generalize decide (p=fX a b)=t at*;replace hI:=Xi hI;replace H3:=Xi H3;replace bQ:=Xi bQ;cases t with
  |true=>
   have hr:=H3.out rfl;rw[hr];replace hr:=Xi hr;exact aY;all_goals exact aO.refl _
  |false=>
   refine aq ?_<;>intros;exact hC _ _ (bQ.out rfl) (wf)
 ·intro hI C;have hr:R=false:=by
   rw[hR.out];unfold kD;rw[Xq,XD]at hI;rw[Yh];intro y hy;have:=hI y hy;simpa using this
  rw[hr];replace hr:=Xi hr;replace hI:=Xi hI;exact aY;all_goals exact aO.refl _
theorem Fg [Flo](v w:Vpc)(hv:v.ranges.length<=1000000000)(hw:w.ranges.length<=1000000000):ai prog 109 [.agg (au v),.agg (au w)] (.v (.bool (dK v w))):=by
 obtain⟨R,hR⟩:∃R,R=dK v w:=⟨_,rfl⟩;rw[<-hR];replace hR:=Xi hR;refine pj func109 ntmps109 results109 ?_;refine aq ?_<;>intros;refine bq ag am v.ranges (fun k=>(v.ranges.take k).all (fun r=>!(w.ranges.any fun q=>r.at_.meets q.at_))=true) (fun k=>[(5,.d (.v (.int .i64 k))),(4,.d (.v (.bool false))),(3,.ptr 1 0),(2,.ptr 0 0)]) (fun _=>[.box 55 ((au v).map .d),.box 55 ((au w).map .d)]) rfl (wf) ?_ ?_
 ·intro k r Jg hk hI C hC;have dF:(k:Int) < (v.ranges.length:Int):=aa;have cX:=wi k aa;have PL:(w.ranges.any fun q=>r.at_.meets q.at_)=false->(v.ranges.take (k+1)).all (fun r=>!(w.ranges.any fun q=>r.at_.meets q.at_))=true:=fun h=>en Jg hI (by rw[h];rfl);have H3:(w.ranges.any fun q=>r.at_.meets q.at_)=true->R=true:=fun h=>by rw[hR.out];exact XR.2 ⟨r,Xk Jg,h⟩
  replace hI:=Xi hI;replace PL:=Xi PL;replace H3:=Xi H3;refine aq ?_<;>intros;refine bq ag am w.ranges (fun j=>(w.ranges.take j).all (fun q=>!(r.at_.meets q.at_))=true) (fun j=>[(6,.d (.v (.int .i64 j))),(5,.d (.v (.int .i64 k))),(4,.d (.v (.bool false))),(3,.ptr 1 0),(2,.ptr 0 0)]) (fun _=>[.box 55 ((au v).map .d),.box 55 ((au w).map .d)]) rfl (wf) ?_ ?_
  ·intro j q hq hj hJ C2 jU;have lh:(j:Int) < (w.ranges.length:Int):=aa;have mW:=wi j aa;have o0:=rl r.at_ q.at_;rw[fI]at o0;cases b:r.at_.meets q.at_ with
   |true=>
    have hr:=H3.out (XR.2 ⟨q,Xk hq,b⟩);rw[b]at o0;rw[hr];replace hr:=Xi hr;replace hJ:=Xi hJ;exact aY;all_goals exact aO.refl _
   |false=>
    rw[b]at o0;have hn:=en hq hJ (by rw[b];rfl);replace hn:=Xi hn;replace hJ:=Xi hJ;refine aq ?_<;>intros;exact jU _ _ hn.out (wf)
  ·intro hJ C2;have hn:=PL.out (by
    rw[Xq,XD]at hJ;rw[Yh];intro q hq;have:=hJ q hq;simpa using this)
   replace hJ:=Xi hJ;replace hn:=Xi hn;refine aq ?_<;>intros;exact hC _ _ hn.out (wf)
 ·intro hI C;have hr:R=false:=by
   rw[hR.out];rw[Xq,XD]at hI;unfold dK;rw[Yh];intro y hy;have:=hI y hy;simpa using this
  rw[hr];replace hr:=Xi hr;replace hI:=Xi hI;exact aY;all_goals exact aO.refl _
def vD (lk:Nat->Nat->Bool)(i k:Nat)(l:List Bool):List Bool:=l.set k (l.getD k false||(l.getD i false&&lk i k))
def rJ (lk:Nat->Nat->Bool)(l:List Bool)(i:Nat):Nat->List Bool
 |0=>l
 |k+1=>vD lk i k (rJ lk l i k)
def jl (lk:Nat->Nat->Bool)(l:List Bool):Nat->List Bool
 |0=>l
 |i+1=>rJ lk (jl lk l i) i l.length
def dL (lk:Nat->Nat->Bool)(l:List Bool):Nat->List Bool
 |0=>l
 |t+1=>jl lk (dL lk l t) l.length
def Fh:List Bool->List Bool->Prop
 |[],[]=>True
 |a::l,b::m=>(a=true->b=true)/\Fh l m
 |_,_=>False
theorem pM:∀l,Fh l l
 |[]=>trivial
 |_::l=>⟨id,pM l⟩
theorem qm:∀{l m k:List Bool},Fh l m->Fh m k->Fh l k
 |[],[],[],_,_=>trivial
 |_::_,_::_,_::_,⟨h1,h2⟩,⟨g1,g2⟩=>⟨fun h=>g1 (h1 h),qm h2 g2⟩
theorem pN:∀{l m:List Bool},Fh l m->Fh m l->l=m
 |[],[],_,_=>rfl
 |a::l,b::m,⟨h1,h2⟩,⟨g1,g2⟩=>by
  rw[pN h2 g2];cases a<;>cases b<;>simp_all
theorem tg:∀{l m:List Bool},Fh l m->m.length=l.length
 |[],[],_=>rfl
 |_::_,_::_,⟨_,h⟩=>by simp[tg h]
theorem I1:∀{l m:List Bool},Fh l m->∀{k},l.getD k false=true->m.getD k false=true
 |[],[],_,_,h=>h
 |_::_,_::_,⟨h1,_⟩,0,h=>by simpa using h1 (by simpa using h)
 |_::_,_::_,⟨_,h2⟩,k+1,h=>by simpa using I1 h2 (k:=k) (by simpa using h)
theorem Bo:∀{l m:List Bool},Fh l m->l=m\/l.count true < m.count true
 |[],[],_=> .inl rfl
 |a::l,b::m,⟨h1,h2⟩=>by
  rcases Bo h2 with rfl|h
  ·cases a<;>cases b<;>simp_all
  ·right;cases a<;>cases b<;>simp_all<;>omega
theorem I2:∀(l:List Bool) (k:Nat) (b:Bool),Fh l (l.set k (l.getD k false||b))
 |[],_,_=>by simp[Fh]
 |a::l,0,b=>by simp only[XT,List.getD_cons_zero];exact⟨fun h=>by simp[h],pM l⟩
 |a::l,k+1,b=>by simp only[X2,List.getD_cons_succ];exact⟨id,I2 l k b⟩
section
variable (lk:Nat->Nat->Bool)
theorem OC (i k:Nat)(l:List Bool):Fh l (vD lk i k l):=I2 l k _
theorem oH (l:List Bool)(i:Nat):∀k d,Fh (rJ lk l i k) (rJ lk l i (k+d))
 |_,0=>pM _
 |k,d+1=>qm (oH l i k d) (OC lk i (k+d) _)
theorem kR (l:List Bool):∀i d,Fh (jl lk l i) (jl lk l (i+d))
 |_,0=>pM _
 |i,d+1=>qm (kR l i d) (by have:=oH lk (jl lk l (i+d)) (i+d) 0 l.length;rw[Xw]at this;exact this)
theorem Fi (l:List Bool)(i:Nat):(jl lk l i).length=l.length:=tg (by have:=kR lk l 0 i;rw[Xw]at this;exact this)
theorem Fj (l:List Bool)(i k:Nat):(rJ lk l i k).length=l.length:=tg (by have:=oH lk l i 0 k;rw[Xw]at this;exact this)
theorem qn (l:List Bool):∀t,Fh l (dL lk l t)
 |0=>pM _
 |t+1=>qm (qn l t) (by have h:=tg (qn l t);have:=kR lk (dL lk l t) 0 l.length;rw[Xw]at this;exact this)
theorem pO (l:List Bool)(t:Nat):(dL lk l t).length=l.length:=tg (qn lk l t)
theorem OD {l:List Bool}(h:jl lk l l.length=l){i k:Nat}(hi:i < l.length)(hk:k < l.length)(h1:l.getD i false=true)(h2:lk i k=true):l.getD k false=true:=by
 have a1:=kR lk l 0 i;have a2:=kR lk l i (l.length - i);rw[Xw]at a1;rw[show i+(l.length - i)=l.length by omega,h]at a2;have e1:jl lk l i=l:=pN a2 a1;have a3:=kR lk l i 1;have a4:=kR lk l (i+1) (l.length - (i+1));rw[show i+1+(l.length - (i+1))=l.length by omega,h]at a4;have e2:jl lk l (i+1)=l:=by rw[e1]at a3;exact pN a4 a3
 simp only[jl,e1]at e2;have b1:=oH lk l i 0 k;have b2:=oH lk l i k (l.length - k);rw[Xw]at b1;rw[show k+(l.length - k)=l.length by omega,e2]at b2;have e3:rJ lk l i k=l:=pN b2 b1;have b3:=oH lk l i k 1;have b4:=oH lk l i (k+1) (l.length - (k+1));rw[show k+1+(l.length - (k+1))=l.length by omega,e2]at b4;have e4:rJ lk l i (k+1)=l:=by rw[e3]at b3;exact pN b4 b3
 simp only[rJ,e3,vD]at e4;rw[<-e4,h1,h2];simp[XJ,hk]
theorem Bp (l:List Bool)(hc:0 < l.count true):∀t,jl lk (dL lk l t) l.length=dL lk l t\/t < (dL lk l t).count true
 |0=> .inr hc
 |t+1=>by
  rcases Bp l hc t with h|h
  ·left;simp only[dL,h]
  ·have hl:=pO lk l t;have hle:=kR lk (dL lk l t) 0 l.length;rw[Xw]at hle;rcases Bo (show Fh (dL lk l t) (dL lk l (t+1)) from hle)with he|he
   ·left;have e2:dL lk l (t+1)=jl lk (dL lk l t) l.length:=rfl;rw[<-he];rw[<-e2,<-he]
   ·right;omega
theorem Cz (l:List Bool)(hc:0 < l.count true){i k:Nat}(hi:i < l.length)(hk:k < l.length)(h1:(dL lk l l.length).getD i false=true)(h2:lk i k=true):(dL lk l l.length).getD k false=true:=by
 have hl:=pO lk l l.length;rcases Bp lk l hc l.length with h|h
 ·exact OD lk (by rw[hl];exact h) (by rw[hl];exact hi) (by rw[hl];exact hk) h1 h2
 ·have:=List.count_le_length (a:=true) (l:=dL lk l l.length);omega
theorem OE {G:Nat->Prop}(hG:∀i k,G i->lk i k=true->G k){l:List Bool}(h:∀k,l.getD k false=true->G k)(i k:Nat):∀j,(vD lk i k l).getD j false=true->G j:=by
 intro j hj;unfold vD at hj;rw[XJ,List.getElem?_set]at hj;split at hj
 ·rename_i e;subst e;split at hj
  ·simp only[YD,Bool.or_eq_true,Xv]at hj;rcases hj with hj|hj
   ·exact h _ hj
   ·exact hG i k (h _ hj.1) hj.2
  ·simp at hj
 ·exact h j (by rw[XJ];exact hj)
theorem I3 {G:Nat->Prop}(hG:∀i k,G i->lk i k=true->G k){l:List Bool}(h:∀k,l.getD k false=true->G k)(i:Nat):∀k j,(rJ lk l i k).getD j false=true->G j
 |0=>h
 |k+1=>OE lk hG (I3 hG h i k) i k
theorem Fk {G:Nat->Prop}(hG:∀i k,G i->lk i k=true->G k){l:List Bool}(h:∀k,l.getD k false=true->G k):∀i j,(jl lk l i).getD j false=true->G j
 |0=>h
 |i+1=>I3 lk hG (Fk hG h i) i _
theorem Bq {G:Nat->Prop}(hG:∀i k,G i->lk i k=true->G k){l:List Bool}(h:∀k,l.getD k false=true->G k):∀t j,(dL lk l t).getD j false=true->G j
 |0=>h
 |t+1=>Fk lk hG (Bq hG h t) _
end
def fS (L:List Lnk):Int->Int:=L.foldl gr (fun x=>x)
theorem Hn {F:Int->Int}{x y:Int}(h:F x=F y)(l:Lnk):gr F l x=gr F l y:=by unfold gr;rw[h]
theorem yy {x y:Int}:∀(L:List Lnk) (F:Int->Int),F x=F y->L.foldl gr F x=L.foldl gr F y
 |[],_,h=>h
 |l::L,F,h=>yy L _ (Hn h l)
theorem yz {l:Lnk}:∀(L:List Lnk) (F:Int->Int),l∈L->L.foldl gr F l.a=L.foldl gr F l.b
 |m::L,F,h=>by
  rcases XY.1 h with rfl|h
  ·refine yy L _ ?_;unfold gr;rw[ah rfl];split<;>rfl
  ·exact yz L _ h
theorem yA {L:List Lnk}{l:Lnk}(h:l∈L):fS L l.a=fS L l.b:=yz L _ h
theorem vE {S:Int->Prop}:∀(L:List Lnk) (F:Int->Int),(∀l∈L,S l.a↔S l.b)->(∀x y,F x=F y->(S x↔S y))->∀x y,L.foldl gr F x=L.foldl gr F y->(S x↔S y)
 |[],_,_,hF,x,y,h=>hF x y h
 |l::L,F,hL,hF,x,y,h=>by
  refine vE L (gr F l) (fun m hm=>hL m (YP _ hm)) (fun u v PM=>?_) x y h;have hl:=hL l ak;unfold gr at PM;by_cases h1:F u=F l.b
  ·by_cases h2:F v=F l.b
   ·exact hF u v (h1.trans h2.symm)
   ·rw[ah h1,af h2]at PM;exact(hF u l.b h1).trans (hl.symm.trans (hF l.a v PM))
  ·by_cases h2:F v=F l.b
   ·rw[af h1,ah h2]at PM;exact(hF u l.a PM).trans (hl.trans (hF v l.b h2).symm)
   ·rw[af h1,af h2]at PM;exact hF u v PM
theorem vF {S:Int->Prop}{L:List Lnk}(hL:∀l∈L,S l.a↔S l.b){x y:Int}(h:fS L x=fS L y):S x↔S y:=
 vE L _ hL (fun x y h=>by rw[h]) x y h
theorem Ho {L M:List Lnk}(h:∀l,l∈L↔l∈M){x y:Int}:fS L x=fS L y↔fS M x=fS M y:=by
 have key:∀{L M:List Lnk},(∀l,l∈L↔l∈M)->fS L x=fS L y->fS M x=fS M y:=fun {L M} h e=>
  ((vF (S:=fun z=>fS M z=fS M y) (L:=L) (fun l hl=>by
   have:=yA ((h l).1 hl);rw[this]) e).2 rfl)
 exact⟨key h,key fun l=>(h l).symm⟩
theorem Hp (L:List Lnk)(l:Lnk):fS (L++[l])=gr (fS L) l:=by unfold fS;rw[Zo];rfl
theorem K5 {F:Int->Int}{l:Lnk}{x y:Int}:gr F l x=gr F l y↔F x=F y\/(F x=F l.a/\F y=F l.b)\/(F x=F l.b/\F y=F l.a):=by
 unfold gr;by_cases h1:F x=F l.b<;>by_cases h2:F y=F l.b
 ·rw[ah h1,ah h2];simp[h1,h2]
 ·rw[ah h1,af h2];constructor
  ·intro h;exact .inr (.inr ⟨h1,h.symm⟩)
  ·rintro (h|h|h)
   ·exact absurd (h.symm.trans h1) h2
   ·exact absurd h.2 h2
   ·exact h.2.symm
 ·rw[af h1,ah h2];constructor
  ·intro h;exact .inr (.inl ⟨h,h2⟩)
  ·rintro (h|h|h)
   ·exact absurd (h.trans h2) h1
   ·exact h.1
   ·exact absurd h.1 h1
 ·rw[af h1,af h2];constructor
  ·intro h;exact .inl h
  ·rintro (h|h|h)
   ·exact h
   ·exact absurd h.2 h2
   ·exact absurd h.1 h1
theorem OF {l:Lnk}(h:l.a < l.b):fX l.a l.b=l/\fX l.b l.a=l:=by
 unfold fX;rw[af aa,ah h,ah h,af aa];exact⟨rfl,rfl⟩
theorem OG {L:List Lnk}{a b:Int}(h:fX a b∈L):fS L a=fS L b:=by
 have:=yA h;unfold fX at this;by_cases h1:b < a
 ·rw[ah h1,af aa]at this;exact this.symm
 ·rw[af h1]at this;split at this
  ·exact this
  ·have:a=b:=aa;rw[this]
def PZ (L:List Lnk)(ids:List Int)(i k:Nat):Bool:=decide (fX (ids.getD i 0) (ids.getD k 0)∈L)
theorem Fl {L:List Lnk}{ids:List Int}(hn:ids.Nodup)(hl:∀l∈L,l.a∈ids/\l.b∈ids/\l.a < l.b){i k:Nat}(hi:i < ids.length)(hk:k < ids.length):
 (dL (PZ L ids) ((XS ids.length false).set i true) ids.length).getD k false=(fS L (ids.getD k 0)==fS L (ids.getD i 0)):=by
 have bP:((XS ids.length false).set i true).length=ids.length:=ak;have qx:0 < ((XS ids.length false).set i true).count true:=by
  rw[List.count_pos_iff,XZ];exact⟨i,by simpa using hi,by simp⟩
 have a1u:∀j,((XS ids.length false).set i true).getD j false=true->j=i:=by
  intro j hj;rw[XJ,List.getElem?_set]at hj;split at hj
  ·rename_i e;exact e.symm
  ·rw[Z2]at hj;split at hj<;>simp at hj
 have gB:=fun(i k:Nat)=>Cz (PZ L ids) _ qx (i:=i) (k:=k);rw[bP]at gB;rw[Yi,beq_iff_eq];constructor
 ·intro h;exact Bq (PZ L ids) (G:=fun j=>fS L (ids.getD j 0)=fS L (ids.getD i 0)) (fun u v hu PM=>by
   unfold PZ at PM;rw[decide_eq_true_eq]at PM;show fS L _=_;rw[<-OG PM];exact hu) (fun j hj=>by rw[a1u j hj]) _ k h
 ·intro h;have gA:∀x∈ids,∃j,j < ids.length/\ids.getD j 0=x:=fun x hx=>by
   obtain⟨j,hj,rfl⟩:=XZ.1 hx;exact⟨j,hj,by simp[XJ,hj]⟩
  have hS:=vF (L:=L) (S:=fun x=>∃j,j < ids.length/\ids.getD j 0=x/\(dL (PZ L ids) ((XS ids.length false).set i true) ids.length).getD j false=true) (fun l zi=>by
   obtain⟨ha,hb,gQ⟩:=hl l zi;obtain⟨u,hu,eu⟩:=gA _ ha;obtain⟨v,hv,ev⟩:=gA _ hb;constructor
   ·rintro⟨j,hj,ej,h2⟩;refine⟨v,hv,ev,gB j v hj hv h2 ?_⟩;unfold PZ;rw[ej,ev,(OF gQ).1,decide_eq_true_eq];exact zi
   ·rintro⟨j,hj,ej,h2⟩;refine⟨u,hu,eu,gB j u hj hu h2 ?_⟩;unfold PZ;rw[ej,eu,(OF gQ).2,decide_eq_true_eq];exact zi) h
  obtain⟨j,hj,ej,h2⟩:=hS.2 ⟨i,hi,rfl,I1 (qn _ _ _) (by simp[XJ,hi])⟩;have:j=k:=by
   have e1:ids[j]=ids[k]:=by simpa[XJ,hj,hk]using ej
   rcases Y9 j k with h|h|h
   ·exact absurd e1 (XH.1 hn j k hj hk h)
   ·exact h
   ·exact absurd e1.symm (XH.1 hn k j hk hj h)
  rw[<-this];exact h2
theorem yB (n:Net):bf n=fS n.links:=by
 unfold bf Wl fS;have key:∀(L:List Lnk) (s:List (List Int × Int) × (Int->Int)),(L.foldl qJ s).2=L.foldl gr s.2:=by
  intro L;induction L with
  |nil=>intro s;rfl
  |cons l L ih=>intro s;rw[YK,YK,ih];rfl
 exact key _ _
theorem a2Z {p:Prop}(h:p:=by
 refine aq ?_<;>intros;refine hC _ _ trivial ?_;rw[dN.out,qv.out];exact wf):p:=h
@[go_sem] def pP (b:Bool):List D:=[.v (.bool b)]
@[go_sem] theorem a0y (n:Nat)(b:Bool):XS n [PV.d (.v (.bool b))]=ab ((XS n b).map pP):=by simp[ab,pP,List.map_replicate]
theorem OH (l:List Bool)(i:Nat)(b:Bool):(ab (l.map pP)).set i [.d (.v (.bool b))]=ab ((l.set i b).map pP):=bN pP l i b
theorem UK {n:Net}{i k:Nat}{v w:Vpc}(hv:n.vpcs[i]? =some v)(hw:n.vpcs[k]? =some w):PZ n.links (n.vpcs.map (·.id)) i k=kD n v.id w.id:=by
 have e1:(n.vpcs.map (·.id)).getD i 0=v.id:=by simp[XJ,hv]
 have e2:(n.vpcs.map (·.id)).getD k 0=w.id:=by simp[XJ,hw]
 unfold PZ kD;rw[e1,e2,Yi,decide_eq_true_eq,XR];simp
theorem K6 {n:Net}(hr:n.vpcs.Pairwise fun a b=>a.id < b.id):(n.vpcs.map (·.id)).Nodup:=by
 unfold List.Nodup;rw[Y3];exact hr.imp fun h=>by omega
theorem yC [Flo](n:Net)(id:Int)(i0:Nat)(hx:fk n id=some i0)(h6:n.vpcs.length<=6)(Pu:n.links.length<=12)(hr:n.vpcs.Pairwise fun a b=>a.id < b.id)(hl:∀l∈n.links,l.a∈n.vpcs.map (·.id)/\l.b∈n.vpcs.map (·.id)/\l.a < l.b):
 ai prog 108 [.agg (cN n),.v (.int .i64 id)] (.sl 1 ((pJ n id).map cm)):=by
 obtain⟨v0,LZ,he0,mC,oK⟩:=eI hx;have dh:=iB n id aa;rw[kQ,hx]at dh
 simp only at dh
 obtain⟨lk,kV⟩:∃lk,lk=PZ n.links (n.vpcs.map (·.id)):=⟨_,rfl⟩;obtain⟨l0,qR⟩:∃l0,l0=(XS n.vpcs.length false).set i0 true:=⟨_,rfl⟩;have zi:l0.length=n.vpcs.length:=by rw[qR];simp
 have tE:∀(k:Nat) (v:Vpc),n.vpcs[k]? =some v->(dL lk l0 n.vpcs.length)[k]? =some (bf n v.id==bf n id):=fun k v hv=>by
  have hk:=(Xm.1 hv).1;have h:=Fl (L:=n.links) (ids:=n.vpcs.map (·.id)) (K6 hr) hl (i:=i0) (k:=k) (by simpa using mC) (by simpa using hk);have e1:(n.vpcs.map (·.id)).getD k 0=v.id:=by simp[XJ,hv]
  have e2:(n.vpcs.map (·.id)).getD i0 0=id:=by simp[XJ,LZ,he0]
  rw[e1,e2,Xs,<-kV,<-qR,<-yB]at h;have jq:k < (dL lk l0 n.vpcs.length).length:=by rw[pO,zi];exact hk
  rw[<-h,XJ,Xj jq];rfl
 have LC:0 < n.vpcs.length:=aa;have a1J:0 < (n.vpcs.length:Int):=aa;have iU:(ab ((XS n.vpcs.length false).map pP)).set i0 [.d (.v (.bool true))]=ab (l0.map pP):=by rw[OH,<-qR]
 have SP:(0:Int)<=(i0:Int):=aa;have HR:(XS n.vpcs.length false)[i0]? =some false:=by rw[Z2,ah mC]
 have F5:pJ n id=(n.vpcs.filter fun v=>bf n v.id==bf n id).map (·.id):=rfl;rw[F5];clear F5 hx oK hl hr;replace tE:=Xi tE;replace qR:=Xi qR;replace he0:=Xi he0;replace kV:=Xi kV;refine pj func108 ntmps108 results108 ?_;have z1z:=@List.length_replicate.{0};refine fl ?_ ?_ ?_ ?_ ?_ ?_ ?_ ?_<;>first|(with_reducible exact True.intro)|intros
 clear dh iU LZ HR;refine so ag am n.vpcs.length (fun _=>True) (fun t=>[(6,.d (.v (.int .i64 t))),(5,.own 1 0),(4,.d (.v (.slice none 0 0))),(2,.ptr 0 0)])
  (fun t=>[.box 28 ((cN n).map .d),.row 4 1 0 (ab ((dL lk l0 t).map pP))]) trivial (wf) ?_ ?_
 ·intro t ht _ CT hCT;have htI:(t:Int) < (n.vpcs.length:Int):=aa;have SU:=wi t aa;have hlt:=pO lk l0 t;rw[zi]at hlt;have tI:dL lk l0 (t+1)=jl lk (dL lk l0 t) n.vpcs.length:=by show jl lk (dL lk l0 t) l0.length=_;rw[zi]
  replace tI:=Xi tI;generalize dL lk l0 t=A at*;refine aq ?_<;>intros;refine so ag am n.vpcs.length (fun _=>True) (fun i=>[(7,.d (.v (.int .i64 i))),(6,.d (.v (.int .i64 t))),(5,.own 1 0),(4,.d (.v (.slice none 0 0))),(2,.ptr 0 0)])
   (fun i=>[.box 28 ((cN n).map .d),.row 4 1 0 (ab ((jl lk A i).map pP))]) trivial (wf) ?_ ?_
  ·intro i hi _ CI hCI;have a1P:(i:Int) < (n.vpcs.length:Int):=aa;have Ai:=wi i aa;have pY:=Fi lk A i;rw[hlt]at pY;have VA:jl lk A (i+1)=rJ lk (jl lk A i) i n.vpcs.length:=by show rJ lk (jl lk A i) i A.length=_;rw[hlt]
   replace VA:=Xi VA;obtain⟨vi,hvi⟩:∃v,n.vpcs[i]? =some v:=⟨_,Xj hi⟩;generalize jl lk A i=B at*;refine aq ?_<;>intros;refine so ag am n.vpcs.length (fun _=>True) (fun k=>[(8,.d (.v (.int .i64 k))),(7,.d (.v (.int .i64 i))),(6,.d (.v (.int .i64 t))),(5,.own 1 0),(4,.d (.v (.slice none 0 0))),(2,.ptr 0 0)])
    (fun k=>[.box 28 ((cN n).map .d),.row 4 1 0 (ab ((rJ lk B i k).map pP))]) trivial (wf) ?_ ?_
   ·intro k hk _ C hC;have dF:(k:Int) < (n.vpcs.length:Int):=aa;have hwk:=wi k aa;have a1v:=Fj lk B i k;rw[pY]at a1v;have dN:rJ lk B i (k+1)=vD lk i k (rJ lk B i k):=rfl;obtain⟨vk,oT⟩:∃v,n.vpcs[k]? =some v:=⟨_,Xj hk⟩;have Qb:=uE n vi.id vk.id aa;have j0:lk i k=kD n vi.id vk.id:=by rw[kV.out];exact UK hvi oT
    generalize rJ lk B i k=M at*;obtain⟨bk,bW⟩:∃b,M[k]? =some b:=⟨_,Xj aa⟩;obtain⟨bi,WL⟩:∃b,M[i]? =some b:=⟨_,Xj aa⟩;have qv:vD lk i k M=M.set k (bk||(bi&&kD n vi.id vk.id)):=by unfold vD;rw[j0];simp[XJ,bW,WL]
    generalize kD n vi.id vk.id=q at*;have b9:=fun b=>OH M k b;clear j0;replace dN:=Xi dN;replace qv:=Xi qv;cases bk with
    |true=>exact a2Z
    |false=>
     cases bi with
     |false=>exact a2Z
     |true=>exact a2Z
   ·intro _ C;have PN:=Fj lk B i n.vpcs.length;rw[pY]at PN;refine aq ?_<;>intros;refine hCI _ _ trivial ?_;rw[VA.out];exact wf
  ·intro _ C;have PN:=Fi lk A n.vpcs.length;rw[hlt]at PN;refine aq ?_<;>intros;refine hCT _ _ trivial ?_;rw[tI.out];exact wf
 ·intro _ C;have PN:=pO lk l0 n.vpcs.length;rw[zi]at PN;generalize dL lk l0 n.vpcs.length=M at*;refine aq ?_<;>intros;refine bL ag am (fun m e h=>∃(k g:Nat),k<=n.vpcs.length/\m=n.vpcs.length - k/\e=[(10,.d (.v (.int .i64 k))),(9,.own 2 g),(5,.own 1 0),(4,.d (.v (.slice none 0 0))),(2,.ptr 0 0)]/\
   h=[.box 28 ((cN n).map .d),.row 4 1 0 (ab (M.map pP)),.row 3 1 g (ab ((((n.vpcs.take k).filter fun v=>bf n v.id==bf n id).map (·.id)).map cm))]) _ _ _ ⟨0,0,XE _,rfl,rfl,rfl⟩ ?_ ?_
  ·refine(du ak 9 3 1 rfl).trans ?_;exact wf
  ·rintro m e h ⟨k,g,hk,hm,rfl,rfl⟩ C hC;by_cases hlt:k < n.vpcs.length
   ·have dF:(k:Int) < (n.vpcs.length:Int):=aa;have cX:=wi k aa;obtain⟨v,hv⟩:∃v,n.vpcs[k]? =some v:=⟨_,Xj hlt⟩;have bW:=tE.out k v hv;have ip:((n.vpcs.take k).filter fun v=>bf n v.id==bf n id).length<=k:=by
     have:=Y8 (fun v:Vpc=>bf n v.id==bf n id) (n.vpcs.take k);rw[Xo]at this;omega
    have U9:((n.vpcs.take k).filter fun v=>bf n v.id==bf n id).length+1<=100:=aa;have dN:(n.vpcs.take (k+1)).filter (fun v=>bf n v.id==bf n id)=(n.vpcs.take k).filter (fun v=>bf n v.id==bf n id)++if (bf n v.id==bf n id)=true then [v]else []:=by
     rw[aj hv,YT];congr 1;cases hb:bf n v.id==bf n id<;>simp[hb]
    replace dN:=Xi dN;replace ip:=Xi ip;replace hm:=Xi hm;generalize (n.vpcs.take k).filter (fun v=>bf n v.id==bf n id)=L at*;cases e1:(bf n v.id==bf n id)with
    |false=>
     rw[e1]at dN bW;refine aq ?_<;>intros;refine hC _ _ _ _ _ ?_ ⟨k+1,g,hlt,rfl,rfl,rfl⟩ (wf (hh:=(by rw[dN.out];simp only[Yz,if_false,Yv];rfl)) (hb:=cH) (hbh:=cH));have:=hm.out;omega
    |true=>
     rw[e1]at dN bW;refine aq ?_<;>intros;refine hC _ _ _ _ _ ?_ ⟨k+1,g+1,hlt,rfl,rfl,rfl⟩ (wf (hh:=(by rw[dN.out];simp only[if_true,Xn,Xl,Xp,<-aI];rfl)) (hb:=cH) (hbh:=cH));have:=hm.out;omega
   ·obtain rfl:k=n.vpcs.length:=aa;(try rw[Xq])
    replace hm:=Xi hm;exact aY;all_goals exact dg
theorem R5 (y l:Lnk):sJ y l < 0↔y.a < l.a\/(y.a=l.a/\y.b < l.b):=by
 unfold sJ;simp only[Et,eN];repeat' split
 all_goals omega
theorem vG (v w:Vpc):dK v w=dK w v:=by
 have key:∀v w:Vpc,dK v w=true->dK w v=true:=fun v w h=>by
  unfold dK at h ⊢;obtain⟨r,hr,h⟩:=XR.1 h;obtain⟨q,hq,h⟩:=XR.1 h;exact XR.2 ⟨q,hq,XR.2 ⟨r,hr,by rw[rm];exact h⟩⟩
 rw[Yi];exact⟨key v w,key w v⟩
theorem K7 (n:Net)(v w:Vpc):kK n v w=kK n w v:=by
 unfold kK;rw[vG v w,Bool.beq_comm]
theorem uF {n:Net}{i j:Nat}{v w:Vpc}(hij:i≠j)(hv:n.vpcs[i]? =some v)(hw:n.vpcs[j]? =some w)(h:kK n v w=true):eS n=false:=by
 rcases V' hij with hlt|hlt
 ·exact um hlt hw hv (by rw[K7];exact h)
 ·exact um hlt hv hw h
theorem I4 {n:Net}(hr:n.vpcs.Pairwise fun a b=>a.id < b.id){i:Nat}{v w:Vpc}(hv:n.vpcs[i]? =some v)(hw:w∈n.vpcs.take i):w.id≠v.id:=by
 obtain⟨j,hj,rfl⟩:=XZ.1 hw;rw[ZD];obtain⟨hi,rfl⟩:=Xm.1 hv;have:=XH.1 hr j i (by rw[Xo]at hj;omega) hi (by rw[Xo]at hj;omega);omega
theorem pQ {n:Net}(hr:n.vpcs.Pairwise fun a b=>a.id < b.id){j:Nat}{w:Vpc}(hw:n.vpcs[j]? =some w):fk n w.id=some j:=by
 unfold fk;rw[XK];obtain⟨hj,rfl⟩:=Xm.1 hw;refine⟨hj,by simp,fun i hi=>?_⟩;have:=XH.1 hr i j aa hj hi;simp;omega
theorem Hq {n:Net}(hr:n.vpcs.Pairwise fun a b=>a.id < b.id){id x:Int}{k:Nat}(h:(pJ n id)[k]? =some x):∃j w,n.vpcs[j]? =some w/\w.id=x/\fk n x=some j/\bf n x=bf n id:=by
 have hm:=Xk h;unfold pJ at hm;obtain⟨w,hw,rfl⟩:=XF.1 hm;rw[Zv,beq_iff_eq]at hw;obtain⟨j,hj⟩:=Zd.1 hw.1;exact⟨j,w,hj,rfl,pQ hr hj,hw.2⟩
theorem CA {n:Net}{id:Int}{w:Vpc}(hw:w∈n.vpcs)(h:bf n w.id=bf n id):w.id∈pJ n id:=by
 unfold pJ;exact XF.2 ⟨w,Zv.2 ⟨hw,by simpa using h⟩,rfl⟩
theorem CB (n:Net)(id:Int):(pJ n id).length<=n.vpcs.length:=by
 unfold pJ;rw[Xs];exact Y8 _ _
theorem R6 {n:Net}(l:Lnk):lW n l=((fk n l.a).isSome&&((fk n l.b).isSome&&decide (l.a < l.b))):=by
 have key:∀x,(gq n x).isSome=(fk n x).isSome:=fun x=>by
  cases h:fk n x with
  |none=>rw[d8 h];rfl
  |some i=>obtain⟨v,-,-,-,h2⟩:=eI h;rw[h2];rfl
 unfold lW;rw[key,key]
def rK (n:Net):Prop:=∀v∈n.vpcs,v.subs.length<=9223372036854775807/\∀s∈v.subs,s.faces.length<=9223372036854775807
theorem kn [Flo](n:Net)(hz:rK n):ai prog 38 [.agg (cN n)] (.v (.int .i64 (cJ n))):=by
 obtain⟨R,hR⟩:∃R,R=cJ n:=⟨_,rfl⟩;rw[<-hR];replace hR:=Xi hR;replace hz:=Xi hz;by_cases h6:n.vpcs.length>6
 ·have h6I:decide ((n.vpcs.length:Int)>6)=true:=aN;have hr:R=2:=by rw[hR.out,cJ,ah (.inl h6)]
  rw[hr];replace hr:=Xi hr;refine pj func38 ntmps38 results38 ?_;exact aY;all_goals exact aO.refl _
 by_cases Pu:n.links.length>12
 ·have h6I:decide ((n.vpcs.length:Int)>6)=false:=aN;have Va:decide ((n.links.length:Int)>12)=true:=aN;have hr:R=2:=by rw[hR.out,cJ,ah (.inr Pu)]
  rw[hr];replace hr:=Xi hr;refine pj func38 ntmps38 results38 ?_;exact aY;all_goals exact aO.refl _
 have h6I:decide ((n.vpcs.length:Int)>6)=false:=aN;have Va:decide ((n.links.length:Int)>12)=false:=aN;have bQ:¬(n.vpcs.length>6\/n.links.length>12):=aa;refine pj func38 ntmps38 results38 ?_;refine aq ?_<;>intros;refine bq ag am n.vpcs (fun k=>(∀v∈n.vpcs.take k,bM v=0)/\(n.vpcs.take k).Pairwise fun a b=>a.id < b.id) (fun k=>[(3,.d (.v (.int .i64 k))),(2,.d (.v (.int .i64 0))),(1,.ptr 0 0)]) (fun _=>[.box 28 ((cN n).map .d)]) ak (wf) ?_ ?_
 ·intro k v hv hk hI C hC;have dF:(k:Int) < (n.vpcs.length:Int):=aa;have cX:=wi k aa;have iV:=aj hv;have VY:=hz.out v (Xk hv);have hcv:=ic v VY.1 VY.2;clear VY;by_cases hc:bM v=0
  ·have hid:1<=v.id:=by have:=(be hc).id;simp[cD]at this;exact this.1
   rw[hc]at hcv;have mY:(mH (n.vpcs.take k) < v.id)->(∀v∈n.vpcs.take (k+1),bM v=0)/\(n.vpcs.take (k+1)).Pairwise fun a b=>a.id < b.id:=fun h=>by
    rw[iV];exact⟨fun u hu=>by
     rcases X0.1 hu with hu|hu
     ·exact hI.1 u hu
     ·rw[Yc.1 hu];exact hc,xK hI.2 h⟩
   have bE:v.id<=mH (n.vpcs.take k)->R=1:=fun h=>by
    rw[hR.out];refine iO bQ (.inl ?_);cases hb:pB n with
    |false=>rfl
    |true=>
     have:=(lX hb (k+1)).2;rw[iV]at this;exact absurd this (A3 hid h)
   clear hI iV;replace hc:=Xi hc;replace mY:=Xi mY;replace bE:=Xi bE;by_cases hk0:k=0
   ·have hkz:decide ((k:Int)>0)=false:=aN;have hg:=mY.out (by rw[hk0];simp[mH];omega);replace hg:=Xi hg;replace hk0:=Xi hk0;refine aq ?_<;>intros;exact hC _ _ hg.out (wf)
   ·obtain⟨j,hj⟩:∃j,k=j+1:=⟨k - 1,by omega⟩;obtain⟨u,hu⟩:∃u,n.vpcs[j]? =some u:=⟨_,Xj aa⟩;have hkz:decide ((k:Int)>0)=true:=aN;have co:IntKind.i64.wrap ((k:Int) - 1)=(j:Int):=by rw[IntKind.wrap_i64];omega
    have lh:(j:Int) < (n.vpcs.length:Int):=aa;have C7:mH (n.vpcs.take k)=u.id:=by rw[hj];unfold mH;rw[ur hu];rfl
    replace hj:=Xi hj;replace hk0:=Xi hk0;by_cases ho:u.id>=v.id
    ·have hr:R=1:=bE.out (by rw[C7];exact ho);rw[hr];replace hr:=Xi hr;replace C7:=Xi C7;exact aY;all_goals exact aO.refl _
    ·have hg:=mY.out (by rw[C7];omega);have iE:decide (u.id>=v.id)=false:=by simpa using ho
     replace C7:=Xi C7;replace hg:=Xi hg;replace ho:=Xi ho;refine aq ?_<;>intros;exact hC _ _ hg.out (wf)
  ·have hr:R=1:=a3k
   have hcb:(bM v !=0)=true:=by simpa using hc
   rw[hr];clear hr hI hC iV;replace hc:=Xi hc;exact aY;all_goals exact aO.refl _
 ·intro hI C;rw[Xq]at hI;have Pv:=xL hI.1 hI.2;have oY:=hI.2;replace hI:=Xi hI;replace oY:=Xi oY;replace Pv:=Xi Pv;refine aq ?_<;>intros;refine bq ag am n.links (fun k=>(∀l∈n.links.take k,lW n l=true)/\jS (n.links.take k)=true) (fun k=>[(4,.d (.v (.int .i64 k))),(2,.d (.v (.int .i64 0))),(1,.ptr 0 0)]) (fun _=>[.box 28 ((cN n).map .d)]) (by simp[jS]) (wf) ?_ ?_
  ·intro k l hl hk hJ C hC;have dF:(k:Int) < (n.links.length:Int):=aa;have cX:=wi k aa;have iV:=aj hl;have j1:=iB n l.a aa;have mB:=iB n l.b aa;rw[kQ]at j1 mB;have bE:lW n l=false->R=1:=fun h=>a3Z
   have j0:=R6 (n:=n) l;have iJ:lW n l=true->jS (n.links.take (k+1))=true->(∀l∈n.links.take (k+1),lW n l=true)/\jS (n.links.take (k+1))=true:=fun h g=>a3D
   have zd:jS (n.links.take (k+1))=false->R=1:=fun h=>a3s
   have uM:=uq (n.links.take k) l;rw[<-iV,hJ.2,Yp]at uM;have Ac:decide ((-1:Int) < 0)=true:=rfl;clear iV;replace hJ:=Xi hJ;replace bE:=Xi bE;replace zd:=Xi zd;replace iJ:=Xi iJ;by_cases gQ:l.a < l.b
   ·have hge:decide (l.a>=l.b)=false:=aN;cases ea:fk n l.a with
    |none=>
     rw[ea]at j1 j0;simp only at j1;have hr:R=1:=bE.out (by rw[j0];rfl);rw[hr];clear hr j0 uM mB;replace ea:=Xi ea;replace gQ:=Xi gQ;exact aY;all_goals exact aO.refl _
    |some ia=>
     rw[ea]at j1 j0;simp only at j1;have SX:decide ((ia:Int) < 0)=false:=ak;replace ea:=Xi ea;cases eb:fk n l.b with
     |none=>
      rw[eb]at mB j0;simp only at mB;have hr:R=1:=bE.out (by rw[j0];rfl);rw[hr];clear hr j0 uM;replace eb:=Xi eb;replace gQ:=Xi gQ;exact aY;all_goals exact aO.refl _
     |some ib=>
      rw[eb]at mB j0;simp only at mB;have hib:decide ((ib:Int) < 0)=false:=ak;replace eb:=Xi eb;have hlt:lW n l=true:=by rw[j0];simp[gQ]
      clear j0;replace hlt:=Xi hlt;replace gQ:=Xi gQ;by_cases hk0:k=0
      ·have hkz:decide ((k:Int)>0)=false:=aN;have hg:=iJ.out hlt.out (by rw[uM,hk0];rfl);clear uM;replace hg:=Xi hg;replace hk0:=Xi hk0;refine aq ?_<;>intros;exact hC _ _ hg.out (wf)
      ·obtain⟨j,hj⟩:∃j,k=j+1:=⟨k - 1,by omega⟩;obtain⟨y,hy⟩:∃y,n.links[j]? =some y:=⟨_,Xj aa⟩;have hkz:decide ((k:Int)>0)=true:=aN;have co:IntKind.i64.wrap ((k:Int) - 1)=(j:Int):=by rw[IntKind.wrap_i64];omega
       have lh:(j:Int) < (n.links.length:Int):=aa;have o4:=R5 y l;rw[hj,ur hy]at uM;simp only at uM;rw[<-hj]at uM;replace hj:=Xi hj;replace hk0:=Xi hk0;by_cases ho:sJ y l < 0
       ·have hg:=iJ.out hlt.out (by rw[uM];simpa using ho);have fP:=o4.1 ho;clear uM o4 ho;replace hg:=Xi hg;by_cases pY:y.a < l.a
        ·have e1:decide (y.a>l.a)=false:=aN;have e2:(y.a==l.a)=false:=aN;clear fP pY;refine aq ?_<;>intros;exact hC _ _ hg.out (wf)
        ·have e1:decide (y.a>l.a)=false:=aN;have e2:(y.a==l.a)=true:=aN;have e3:decide (y.b>=l.b)=false:=aN;clear fP pY;refine aq ?_<;>intros;exact hC _ _ hg.out (wf)
       ·have hr:R=1:=zd.out (by rw[uM];simpa using ho);have fP:¬(y.a < l.a\/(y.a=l.a/\y.b < l.b)):=fun h=>ho (o4.2 h);rw[hr];clear uM hr o4 ho;by_cases pY:y.a>l.a
        ·have e1:decide (y.a>l.a)=true:=by simpa using pY
         clear fP pY;exact aY;all_goals exact aO.refl _
        ·have e1:decide (y.a>l.a)=false:=by simpa using pY
         have e2:(y.a==l.a)=true:=aN;have e3:decide (y.b>=l.b)=true:=aN;clear fP pY;exact aY;all_goals exact aO.refl _
   ·have hge:decide (l.a>=l.b)=true:=aN;have hr:R=1:=bE.out (by rw[j0];simp;omega);rw[hr];clear hr j0 uM j1 mB;replace gQ:=Xi gQ;exact aY;all_goals exact aO.refl _
  ·intro hJ C;rw[Xq]at hJ;have LR:∀l∈n.links,l.a∈n.vpcs.map (·.id)/\l.b∈n.vpcs.map (·.id)/\l.a < l.b:=fun l hl=>by
    have:=hJ.1 l hl;unfold lW at this;simp only[Xv,decide_eq_true_eq]at this;exact⟨gu this.1,gu this.2.1,this.2.2⟩
   replace hJ:=Xi hJ;replace LR:=Xi LR;refine aq ?_<;>intros;refine bq ag am n.vpcs (fun k=>∀v∈n.vpcs.take k,∀w∈n.vpcs,w.id≠v.id->kK n v w=false) (fun k=>[(6,.d (.v (.int .i64 k))),(2,.d (.v (.int .i64 0))),(1,.ptr 0 0)]) (fun _=>[.box 28 ((cN n).map .d)]) ak (wf) ?_ ?_
   ·intro k v hv hk hK C hC;have dF:(k:Int) < (n.vpcs.length:Int):=aa;have cX:=wi k aa;have hgp:=yC n v.id k (pQ oY.out hv) aa aa oY.out LR.out;have hgl:=CB n v.id;have dN:(∀w∈n.vpcs,w.id≠v.id->kK n v w=false)->∀v∈n.vpcs.take (k+1),∀w∈n.vpcs,w.id≠v.id->kK n v w=false:=fun h u hu=>by
     rw[aj hv]at hu;rcases X0.1 hu with hu|hu
     ·exact hK u hu
     ·rw[Yc.1 hu];exact h
    have hgm:∀w∈n.vpcs,bf n w.id=bf n v.id->w.id∈pJ n v.id:=fun w hw h=>CA hw h;have VZ:∀(k:Nat) (x:Int),(pJ n v.id)[k]? =some x->∃j w,n.vpcs[j]? =some w/\w.id=x/\fk n x=some j/\bf n x=bf n v.id:=fun k x h=>Hq oY.out h;replace hK:=Xi hK;replace dN:=Xi dN;replace hgm:=Xi hgm;replace VZ:=Xi VZ;generalize pJ n v.id=G at*;refine aq ?_<;>intros;refine bq ag am G (fun j=>∀w∈n.vpcs,w.id∈G.take j->w.id≠v.id->kK n v w=false) (fun j=>[(8,.d (.v (.int .i64 j))),(7,.d (.sl 1 (G.map cm))),(6,.d (.v (.int .i64 k))),(2,.d (.v (.int .i64 0))),(1,.ptr 0 0)]) (fun _=>[.box 28 ((cN n).map .d)]) ak (wf) ?_ ?_
    ·intro j x hx hj hL C2 jU;have lh:(j:Int) < (G.length:Int):=aa;have mW:=wi j aa;obtain⟨q,w,hw,V0,hqx,VB⟩:=VZ.out j x hx;have hL2:(x≠v.id->kK n v w=false)->∀w∈n.vpcs,w.id∈G.take (j+1)->w.id≠v.id->kK n v w=false:=fun h u hu hug bG=>by
      rw[aj hx]at hug;rcases X0.1 hug with hug|hug
      ·exact hL u hu hug bG
      ·have e1:u.id=x:=Yc.1 hug;obtain⟨p,hp⟩:=Zd.1 hu;have e2:=pQ oY.out hp;rw[e1,hqx]at e2;cases e2;rw[hw]at hp;cases hp;exact h (by rw[<-e1];exact bG)
     by_cases Qc:x=v.id
     ·have e1:(x !=v.id)=false:=by simpa using Qc
      have hn:=hL2 fun h=>absurd Qc h;clear hL2 hL;replace hn:=Xi hn;replace Qc:=Xi Qc;replace V0:=Xi V0;refine aq ?_<;>intros;exact jU _ _ hn.out (wf)
     ·have e1:(x !=v.id)=true:=by simpa using Qc
      have dh:=iB n x aa;rw[kQ,hqx]at dh
      simp only at dh
      have BB:=(be (hI.out.1 v (Xk hv))).n4;have hrw:=(be (hI.out.1 w (Xk hw))).n4;have gB:=Fg v w aa aa;have VC:(0:Int)<=(q:Int):=aa;have uL:(q:Int) < (n.vpcs.length:Int):=by have:=(Xm.1 hw).1;omega
      have hfe:kK n v w=dK v w:=by unfold kK;rw[V0,VB];simp
      have hkq:k≠q:=fun e=>by subst e;rw[hv]at hw;cases hw;exact Qc V0.symm
      clear BB hrw;replace V0:=Xi V0;replace hkq:=Xi hkq;replace hqx:=Xi hqx;replace VB:=Xi VB;replace hL:=Xi hL;cases b:dK v w with
      |true=>
       have hr:R=1:=by
        rw[hR.out];exact iO bQ (.inr (.inr (.inr (uF hkq.out hv hw (by rw[hfe];exact b)))))
       rw[b]at gB;rw[hr];clear hr hL2 hfe b;replace Qc:=Xi Qc;exact aY;all_goals exact aO.refl _
      |false=>
       have hn:=hL2 fun _=>by rw[hfe];exact b
       rw[b]at gB;clear hL2 hfe b;replace hn:=Xi hn;replace Qc:=Xi Qc;refine aq ?_<;>intros;exact jU _ _ hn.out (wf)
    ·intro hL C2;rw[Xq]at hL;have hn:=dN.out fun w hw bG=>by
      by_cases hh:bf n w.id=bf n v.id
      ·exact hL w hw (hgm.out w hw hh) bG
      ·unfold kK;have:(bf n v.id==bf n w.id)=false:=by simpa using fun e=>hh e.symm
       rw[this];rfl
     replace hL:=Xi hL;replace hn:=Xi hn;refine aq ?_<;>intros;exact hC _ _ hn.out (wf)
   ·intro hK C;rw[Xq]at hK;have hr:R=0:=by
     rw[hR.out];refine un bQ Pv.out (by rw[XD];exact hJ.out.1) hJ.out.2 (ro fun i v w hv hw=>?_);exact hK v (Xk hv) w (Yf hw) (I4 oY.out hv hw)
    rw[hr];replace hr:=Xi hr;replace hK:=Xi hK;exact aY;all_goals exact aO.refl _
theorem a1U {p:Prop}(h:p:=by
 intro j f hf hj _ C hC;have lh:(j:Int) < (s.faces.length:Int):=aa;have mW:=wi j aa;have ip:=jb.2 f (Xk hf);have jT:j+1<=100:=aa;have qt:(Ye j s.faces).length=j:=by rw[Xo];omega
 replace hf:=Xi hf;have BE:=hf.out;refine aq ?_<;>intros;refine hC _ _ trivial ((av 8 1 3 1 (f.addrs.map cm) rfl).trans ?_);simp only[eM,fz,ee,dX,eF,d7,aD,aZ,bg,Xl,Xp,Xz,Xx,reduceIte,and_true,true_and,and_self,and_false,false_and,Xw,XG,reduceCtorEq,da];exact wf (hh:=(by rw[aj hf.out,Xn,Xl,Xp,<-aI];rfl)) (hb:=cH) (hbh:=cH)):p:=h
theorem a2b {p:Prop}(h:p:=by
 refine(ax ak 5 71 [.d (.v (.int .i64 s.id)),.d (.v (.int .i64 s.at_.at_)),.d (.v (.int .i64 s.at_.len)),.d (.v (.slice none 0 0))] 3 74 2 rfl rfl rfl).trans ?_;exact wf (hb:=cH) (hbh:=cH)):p:=h
theorem a2o {p:Prop}(h:p:=by
 refine(ax ak 3 55 [.d (.v (.int .i64 v.id)),.own 2 1,.d (.v (.slice none 0 0))] 2 71 4 rfl rfl rfl).trans ?_;exact wf (hb:=cH) (hbh:=cH)):p:=h
theorem yD [Flo](v:Vpc)(h4:v.ranges.length<=4)(h6:v.subs.length<=6)(h8:∀s∈v.subs,s.faces.length<=8/\∀f∈s.faces,f.addrs.length<=4):
 MSpec prog 44 [.d (.agg (au v))] [] (.agg [.d (.v (.int .i64 v.id)),.own 2 1,.own 4 v.subs.length]) [.gone,.gone,.row 58 3 1 (ab (v.ranges.map bp)),.gone,.row 71 4 v.subs.length (ab (v.subs.map aT))]:=by
 replace h8:=Xi h8;refine mj func44 ntmps44 results44 ?_;refine aq ?_<;>intros;refine bq ag am v.subs (fun _=>True) (fun k=>[(4,.d (.v (.int .i64 k))),(3,.ptr 3 0),(2,.ptr 1 0),(1,.ptr 0 0)]) (fun k=>[.box 55 ((au v).map .d),.box 55 [.d (.v (.int .i64 0)),.d (.v (.slice none 0 0)),.d (.v (.slice none 0 0))],.row 58 3 1 (ab (v.ranges.map bp)),.box 55 [.d (.v (.int .i64 v.id)),.own 2 1,.own 4 k],.row 71 4 k (ab ((v.subs.take k).map aT))]) trivial ?_ ?_ ?_
 ·exact a2o
 ·intro k s hs hk _ CO uP;have dF:(k:Int) < (v.subs.length:Int):=aa;have cX:=wi k aa;have jb:=h8.out s (Xk hs);have jQ:k+1<=100:=aa;have kV:(Ye k v.subs).length=k:=by rw[Xo];omega
  replace hs:=Xi hs;have mz:=hs.out;refine aq ?_<;>intros;refine bq ag am s.faces (fun _=>True) (fun j=>[(6,.d (.v (.int .i64 j))),(5,.ptr 5 0),(4,.d (.v (.int .i64 k))),(3,.ptr 3 0),(2,.ptr 1 0),(1,.ptr 0 0)])
   (fun j=>[.box 55 ((au v).map .d),.box 55 [.d (.v (.int .i64 0)),.d (.v (.slice none 0 0)),.d (.v (.slice none 0 0))],.row 58 3 1 (ab (v.ranges.map bp)),.box 55 [.d (.v (.int .i64 v.id)),.own 2 1,.own 4 k],.row 71 4 k (ab ((v.subs.take k).map aT)),.box 71 [.d (.v (.int .i64 s.id)),.d (.v (.int .i64 s.at_.at_)),.d (.v (.int .i64 s.at_.len)),.own 6 j],.row 74 2 j (ab ((s.faces.take j).map bR))]) trivial ?_ ?_ ?_
  ·exact a2b
  ·exact a1U
  ·exact a2i
 ·intro _ C;refine aq ?_<;>intros;(try rw[Xq])
  refine(aJ 0 ak).trans ?_;refine(aJ 1 (by simp[bw])).trans ?_;exact(aJ 3 (by simp[bw])).trans (aW rfl rfl)
theorem mg [Flo](n:Net)(h6:n.vpcs.length<=6)(Pu:n.links.length<=12)(hv:∀v∈n.vpcs,bM v=0):
 MSpec prog 21 [.d (.agg (cN n))] [] (.agg [.own 4 n.vpcs.length,.own 2 1]) [.gone,.gone,.row 76 2 1 (ab (n.links.map bS)),.gone,.row 55 3 n.vpcs.length (ab (n.vpcs.map au))]:=by
 replace hv:=Xi hv;refine mj func21 ntmps21 results21 ?_;refine aq ?_<;>intros;refine bq ag am n.vpcs (fun _=>True) (fun k=>[(4,.d (.v (.int .i64 k))),(3,.ptr 3 0),(2,.ptr 1 0),(1,.ptr 0 0)])
  (fun k=>[.box 28 ((cN n).map .d),.box 28 [.d (.v (.slice none 0 0)),.d (.v (.slice none 0 0))],.row 76 2 1 (ab (n.links.map bS)),.box 28 [.own 4 k,.own 2 1],.row 55 3 k (ab ((n.vpcs.take k).map au))]) trivial ?_ ?_ ?_
 ·refine(ax ak 3 28 [.d (.v (.slice none 0 0)),.own 2 1] 0 55 3 rfl rfl rfl).trans ?_;exact wf (hb:=cH) (hbh:=cH)
 ·intro k v LZ hk _ C hC;have dF:(k:Int) < (n.vpcs.length:Int):=aa;have cX:=wi k aa;have qq:k+1<=100:=aa;have hlv:(Ye k n.vpcs).length=k:=by rw[Xo];omega
  have oT:=be (hv.out v (Xk LZ));have iE:=yD v oT.n4 oT.n6 oT.n8;clear oT;replace LZ:=Xi LZ;have Dh:=LZ.out;have z1z:=Ln.mk (ls:=[]) (iE);refine aq ?_<;>intros;refine hC _ _ trivial ((av 9 v.subs.length 71 4 (v.subs.map aT) rfl).trans ?_);simp only[eM,fz,ee,dX,eF,d7,aD,aZ,bg,Xl,Xp,Xz,Xx,reduceIte,and_true,true_and,and_self,and_false,false_and,Xw,XG,reduceCtorEq];refine(av 7 1 58 3 (v.ranges.map bp) rfl).trans ?_;simp only[eM,fz,ee,dX,eF,d7,aD,aZ,bg,Xl,Xp,Xz,Xx,reduceIte,and_true,true_and,and_self,and_false,false_and,Xw,XG,reduceCtorEq];exact wf (hh:=(by rw[aj LZ.out,Xn,Xl,Xp,<-aI];rfl)) (hb:=cH) (hbh:=cH)
 ·intro _ C;refine aq ?_<;>intros;refine(aJ 0 ak).trans ?_;refine(aJ 1 (by simp[bw])).trans ?_;exact(aJ 3 (by simp[bw])).trans (aW rfl rfl)
theorem a3Y {p:Prop}(h:p:=by
  have bO:=bO.out;rw[Xq]at bO;rw[Yh];intro x hx;have:=XD.1 bO x hx;simpa using this):p:=h
theorem UL {α:Type}{key:α->Int}{t:Int}{l:List α}{k:Nat}{q:α}(hk:k < jV key t l)(hq:l[k]? =some q):key q < t:=a4O
theorem UM {α:Type}{key:α->Int}{t:Int}{l:List α}{q:α}(hq:l[jV key t l]? =some q):t<=key q:=a3u
def wb {α:Type}(key:α->Int)(x:α)(l:List α)(k:Nat)(out:List α)(f:Bool):Prop:=
 out.length<=k+1/\((f=false/\k<=jV key (key x) l/\out=l.take k)\/(f=true/\jV key (key x) l < k/\out++l.drop k=dn key x l))
section
variable {α:Type}{key:α->Int}{x y:α}{l:List α}{k:Nat}{out:List α}
theorem Hs:wb key x l 0 [] false:=⟨XE _,.inl ⟨rfl,XE _,rfl⟩⟩
theorem Ht (h:wb key x l k out true)(hy:l[k]? =some y):wb key x l (k+1) (out++[y]) true:=by
 obtain⟨h1,h2|h2⟩:=h
 ·cases h2.1
 ·refine⟨by simp;omega,.inr ⟨rfl,by omega,?_⟩⟩;rw[<-h2.2.2,kJ hy];simp
theorem Hu (h:wb key x l k out false)(hy:l[k]? =some y)(hg:key y>key x):wb key x l (k+1) (out++[x]++[y]) true:=by
 obtain⟨h1,h2|h2⟩:=h
 ·have hk:k=jV key (key x) l:=by
   rcases XL k (jV key (key x) l)with h|h
   ·have:=UL h hy;omega
   ·omega
  have hl:out.length<=k:=by rw[h2.2.2,Xo];omega
  refine⟨by simp;omega,.inr ⟨rfl,by omega,?_⟩⟩;unfold dn;rw[<-hk,h2.2.2,kJ hy];simp
 ·cases h2.1
theorem Hv (h:wb key x l k out false)(hy:l[k]? =some y)(hg:key y < key x):wb key x l (k+1) (out++[y]) false:=by
 obtain⟨h1,h2|h2⟩:=h
 ·have hk:k < jV key (key x) l:=by
   rcases XL k (jV key (key x) l)with h|h
   ·exact h
   ·obtain rfl:k=jV key (key x) l:=aa;have:=UM hy;omega
  have hl:out.length<=k:=by rw[h2.2.2,Xo];omega
  exact⟨by simp;omega,.inl ⟨rfl,hk,by rw[h2.2.2,aj hy]⟩⟩
 ·cases h2.1
theorem CC (h:wb key x l l.length out true):out=dn key x l:=by
 obtain⟨h1,h2|h2⟩:=h
 ·cases h2.1
 ·rw[<-h2.2.2,Y6,Yv]
theorem CD (h:wb key x l l.length out false):out++[x]=dn key x l:=by
 obtain⟨h1,h2|h2⟩:=h
 ·have:=Ug key (key x) l;unfold dn;rw[show jV key (key x) l=l.length by omega,h2.2.2];simp
 ·cases h2.1
end
theorem K8 [Flo](v:Vpc)(r:Rng)(hl:v.subs.length<=9223372036854775807)(hf:∀s∈v.subs,s.faces.length<=9223372036854775807):ai prog 168 [.agg (au v),.agg (bp r)] (.tup [.agg (au (cE v r).1),.v (.int .i64 (cE v r).2)]):=by
 obtain⟨R,hR⟩:∃R,R=cE v r:=⟨_,rfl⟩;rw[<-hR];replace hR:=Xi hR;have bo:=ic v hl hf;clear hl hf;by_cases hc:bM v=0
 ·have hk:=be hc;have LO:=hk.n4;have iE:=yD v hk.n4 hk.n6 hk.n8;have hw:ai prog 75 [.v (.int .i64 r.pool),.v (.int .i64 1),.v (.int .i64 65536)] (.v (.bool (cD r.pool))):=gI _ _ _;have FK:ai prog 189 [.agg (aS r.at_)] (.v (.bool (chk r.at_.at_ r.at_.len==0))):=xD r.at_;have aR:R=if mG v r≠0 then (Vpc.zero,mG v r)else ({v with ranges:=dn (·.at_.at_) r v.ranges},0):=by rw[hR.out];unfold cE;rw[af (by simpa using hc)]
  unfold mG at aR;replace aR:=Xi aR;rw[hc]at bo;clear hR hc;cases b1:(chk r.at_.at_ r.at_.len==0)with
  |false=>
   have hr:R=(Vpc.zero,1):=by rw[aR.out];simp at b1;simp[b1]
   rw[b1]at FK;rw[hr];replace hr:=Xi hr;clear hk;refine pj func168 ntmps168 results168 ?_;refine aq ?_<;>intros;all_goals exact dg
  |true=>
  have c1:chk r.at_.at_ r.at_.len=0:=by simpa using b1
  rw[b1]at FK;cases b2:cD r.pool with
  |false=>
   have hr:R=(Vpc.zero,1):=by rw[aR.out];simp[b2]
   rw[b2]at hw;rw[hr];replace hr:=Xi hr;clear hk;refine pj func168 ntmps168 results168 ?_;refine aq ?_<;>intros;all_goals exact dg
  |true=>
  rw[b2]at hw;have gn:R=if (v.ranges.any fun q=>q.at_.meets r.at_)=true then (Vpc.zero,6)else if v.ranges.length=4 then (Vpc.zero,2)else ({v with ranges:=dn (·.at_.at_) r v.ranges},0):=by
   rw[aR.out,c1,b2];cases(v.ranges.any fun q=>q.at_.meets r.at_)
   ·by_cases h:v.ranges.length=4<;>simp[h]
   ·simp
  have oR:r.at_.right=true:=by simp[Pfx.right,bC,c1]
  replace gn:=Xi gn;replace oR:=Xi oR;have hkr:=Xi hk.ranges;clear aR hk c1;refine pj func168 ntmps168 results168 ?_;have z1z:=Ln.mk (ls:=[]) (iE);refine aq ?_<;>intros;clear iE bo FK hw;refine bL ag am (fun m e h=>∃(k g:Nat) (out:List Rng) (f:Bool),k<=v.ranges.length/\wb (fun r:Rng=>r.at_.at_) r v.ranges k out f/\(v.ranges.take k).all (fun q=>!(q.at_.meets r.at_))=true/\m=v.ranges.length - k/\
   e=[(9,.d (.v (.int .i64 k))),(8,.d (.v (.bool f))),(7,.ptr 8 0),(5,.d (.v (.int .i64 0))),(4,.ptr 2 0),(3,.ptr 1 0),(2,.ptr 0 0)]/\h=[.box 55 ((au v).map .d),.box 58 ((bp r).map .d),.box 55 [.d (.v (.int .i64 0)),.d (.v (.slice none 0 0)),.d (.v (.slice none 0 0))],.gone,.gone,.row 58 3 1 (ab (v.ranges.map bp)),.gone,.row 71 4 v.subs.length (ab (v.subs.map aT)),.box 55 [.d (.v (.int .i64 v.id)),.own 9 g,.own 7 v.subs.length],.row 58 3 g (ab (out.map bp))]) _ _ _ ⟨0,0,[],false,XE _,Hs,rfl,rfl,rfl,rfl⟩ ?_ ?_
  ·refine(ax ak 8 55 [.d (.v (.int .i64 v.id)),.d (.v (.slice none 0 0)),.own 7 v.subs.length] 1 58 3 rfl rfl rfl).trans ?_;exact wf
  ·rintro m e h ⟨k,g,out,f,hk,fQ,bO,hm,rfl,rfl⟩ C hC;replace hm:=Xi hm;replace bO:=Xi bO;have o4:=fQ.1;replace fQ:=Xi fQ;have qq:out.length<=5:=aa;have jQ:(out.length+1)*24<=140737488355328:=by clear o4 hk LO;omega
   have jT:(out.length+1+1)*24<=140737488355328:=by clear o4 hk LO jQ;omega
   by_cases hlt:k < v.ranges.length
   ·have dF:(k:Int) < (v.ranges.length:Int):=aa;have cX:=wi k aa;obtain⟨y,hy⟩:∃y,v.ranges[k]? =some y:=⟨_,Xj hlt⟩;have HT:=Xk hy;have o0:=rl y.at_ r.at_;rw[fI]at o0;cases b3:y.at_.meets r.at_ with
    |true=>
     have hr:R=(Vpc.zero,6):=by rw[gn.out,ah (XR.2 ⟨y,HT,b3⟩)]
     rw[b3]at o0;rw[hr];replace hr:=Xi hr;refine aq ?_<;>intros;all_goals exact dg
    |false=>
     rw[b3]at o0;have bG:y.at_.at_≠r.at_.at_:=xH (lu (hkr.out y HT)) oR.out b3;have mn:=en (p:=fun q:Rng=>!(q.at_.meets r.at_)) hy bO.out (by rw[b3];rfl);replace mn:=Xi mn;replace bG:=Xi bG;replace HT:=Xi HT;cases f with
     |true=>
      have FY:=Xi (Ht fQ.out hy);refine aq ?_<;>intros;refine hC _ _ _ _ _ ?_ ⟨k+1,g+1,out++[y],true,hlt,FY.out,mn.out,rfl,rfl,rfl⟩ (wf (hh:=(by simp only[au,bp,Xn,Xl,Xp,<-aI];rfl)));have:=hm.out;omega
     |false=>
      cases b4:decide (y.at_.at_>r.at_.at_)with
      |true=>
       have FY:=Xi (Hu fQ.out hy (of_decide_eq_true b4));refine aq ?_<;>intros;refine hC _ _ _ _ _ ?_ ⟨k+1,g+1+1,out++[r]++[y],true,hlt,FY.out,mn.out,rfl,rfl,rfl⟩ (wf (hh:=(by simp only[au,bp,Xn,Xl,Xp,<-aI,X3];rfl)));have:=hm.out;omega
      |false=>
       have FY:=Xi (Hv fQ.out hy (by have:=bG.out;have:=of_decide_eq_false b4;show y.at_.at_ < r.at_.at_;omega));refine aq ?_<;>intros;refine hC _ _ _ _ _ ?_ ⟨k+1,g+1,out++[y],false,hlt,FY.out,mn.out,rfl,rfl,rfl⟩ (wf (hh:=(by simp only[au,bp,Xn,Xl,Xp,<-aI];rfl)));have:=hm.out;omega
   ·obtain rfl:k=v.ranges.length:=aa;have bQ:(v.ranges.any fun q=>q.at_.meets r.at_)=false:=a3Y
    have kW:R=if v.ranges.length=4 then (Vpc.zero,2)else ({v with ranges:=dn (·.at_.at_) r v.ranges},0):=by rw[gn.out,af (by simp[bQ])]
    clear gn bQ;cases f with
    |true=>
     have he:=CC fQ.out;have lI:out.length=v.ranges.length+1:=by rw[he,fK]
     rw[<-he]at kW;replace he:=Xi he;by_cases h4:v.ranges.length=4
     ·rw[ah h4]at kW;have hd:decide ((out.length:Int)>4)=true:=aN;rw[kW];replace kW:=Xi kW;replace lI:=Xi lI;refine aq ?_<;>intros;all_goals exact dg
     ·rw[af h4]at kW;have hd:decide ((out.length:Int)>4)=false:=aN;rw[kW];replace kW:=Xi kW;replace lI:=Xi lI;exact aY;all_goals exact dg
    |false=>
     have he:=CD fQ.out;have lI:out.length+1=v.ranges.length+1:=by have h:=congrArg Zm he;rw[fK]at h;simpa using h
     rw[<-he]at kW;replace he:=Xi he;by_cases h4:v.ranges.length=4
     ·rw[ah h4]at kW;have hd:decide (((out.length+1:Nat):Int)>4)=true:=aN;rw[kW];replace kW:=Xi kW;replace lI:=Xi lI;refine aq ?_<;>intros;all_goals exact dg
     ·rw[af h4]at kW;have hd:decide (((out.length+1:Nat):Int)>4)=false:=aN;rw[kW];replace kW:=Xi kW;replace lI:=Xi lI;refine aq ?_<;>intros;all_goals(simp only[Xn,Xl,Xp];exact dg)
 ·have h1:(bM v !=0)=true:=by simpa using hc
  have hr:R=(Vpc.zero,bM v):=by rw[hR.out];unfold cE;rw[ah hc]
  rw[hr];replace hr:=Xi hr;clear hR;refine pj func168 ntmps168 results168 ?_;refine aq ?_<;>intros;exact dg
def Tl [Flo]:List (List D)->List (List D)->Prop
 |[],[]=>True
 |r::l,s::m=>qZ r s/\Tl l m
 |_,_=>False
theorem yE [Flo]:∀l:List (List D),Tl l l
 |[]=>trivial
 |r::l=>⟨AM r,yE l⟩
theorem I5 [Flo]:∀{a b c d:List (List D)},Tl a b->Tl c d->Tl (a++c) (b++d)
 |[],[],_,_,_,h=>h
 |[],_::_,_,_,h,_=>h.elim
 |_::_,[],_,_,h,_=>h.elim
 |_::_,_::_,_,_,⟨h1,h2⟩,h=>⟨h1,I5 h2 h⟩
theorem I6 [Flo]{A B:List (List D)}{r s:List D}(h:qZ r s):Tl (A++r::B) (A++s::B):=I5 (yE _) ⟨h,yE _⟩
theorem OI [Flo]:∀{l m:List (List D)},Tl l m->l.length=m.length/\∀(j:Nat) (a b:List D),l[j]? =some a->m[j]? =some b->qZ a b
 |[],[],_=>⟨rfl,fun j a b h=>by simp at h⟩
 |[],_::_,h=>h.elim
 |_::_,[],h=>h.elim
 |r::l,s::m,⟨h1,h2⟩=>by
  obtain⟨q1,q2⟩:=OI h2;refine⟨by simp[q1],fun j a b ha hb=>?_⟩;cases j with
  |zero=>simp at ha hb;subst ha;subst hb;exact h1
  |succ j=>exact q2 j a b (by simpa using ha) (by simpa using hb)
theorem aO.sl [Flo]{sz:Nat}{l m:List (List D)}(h:Tl l m)(h1:∀r∈m,∀d∈r,d.one=true):aO (.sl sz l) (.sl sz m):=fun M w v hr=>by
 obtain⟨q1,q2⟩:=OI h;cases hr with
 |nil _ ao cap hm=>
  have:m=[]:=X9 (by rw[<-q1];rfl);subst this;exact .nil sz ao cap hm
 |sl _ rows b off cap f hM hb hc hm hr _ cf aU hz=>
  rw[q1];have row:∀(i:Nat) (s:List D),m[i]? =some s->∃r,l[i]? =some r/\qZ r s:=fun i s hs=>by
   obtain⟨hlt,-⟩:=Xm.1 hs;exact⟨l[i]'(by omega),Xj aa,q2 i _ s (Xj aa) hs⟩
  refine .sl sz m b off cap f hM hb aa hm (fun s hs=>?_) h1 (fun i j hi hj=>cf i j aa hj) (fun i j s d hs hd=>?_) hz
  ·obtain⟨i,hi,rfl⟩:=XZ.1 hs;obtain⟨r,e1,e2⟩:=row i _ (Xj hi);rw[<-(ws e2).1];exact hr r (Xk e1)
  ·obtain⟨r,e1,e2⟩:=row i s hs;obtain⟨p1,p2⟩:=ws e2;obtain⟨hlt,-⟩:=Xm.1 hd;exact p2 j _ d (Xj aa) hd M w _ (aU i j r _ e1 (Xj aa))
theorem OJ {v:Vpc}(h:VpcOK v):bM v=0:=by
 rw[Na];refine⟨?_,?_,h.ar,h.as_⟩
 ·simp only[lP,Zl,decide_eq_false_iff_not,Yh];refine⟨by have:=h.n4;omega,by have:=h.n6;omega,fun s hs=>?_⟩;have h8:=h.n8 s hs;simp only[oM,ZM,Zl,decide_eq_false_iff_not,Yh];refine⟨by omega,fun f hf=>?_⟩;have:=h8.2 f hf;simp[qH];omega
 ·unfold qI;simp only[Xv,XD,gG];exact⟨⟨h.id,h.rr,h.rs⟩,h.ranges,h.subs⟩
theorem K9 {v:Vpc}{r:Rng}(h:(cE v r).2=0):bM (cE v r).1=0:=by
 unfold cE at h ⊢;by_cases h1:bM v≠0
 ·rw[ah h1]at h;exact absurd h h1
 rw[af h1]at h ⊢;have hk:=be (by simpa using h1);by_cases h2:mG v r≠0
 ·rw[ah h2]at h;exact absurd h h2
 rw[af h2]at h ⊢;have h3:mG v r=0:=by simpa using h2
 obtain⟨g1,g2,g3,g4⟩:cD r.pool=true/\chk r.at_.at_ r.at_.len=0/\(v.ranges.any fun q=>q.at_.meets r.at_)=false/\v.ranges.length≠4:=by
  unfold mG at h3;generalize (v.ranges.any fun q=>q.at_.meets r.at_)=M at*;generalize cD r.pool=I at*;grind
 have oR:r.at_.right=true:=by simp[Pfx.right,bC,g2]
 have bQ:∀q∈v.ranges,q.at_.meets r.at_=false:=fun q hq=>by simpa using Yh.1 g3 q hq
 have bG:∀q∈v.ranges,q.at_.at_≠r.at_.at_:=fun q hq=>xH (lu (hk.ranges q hq)) oR (bQ q hq);refine OJ ⟨?_,hk.n6,hk.n8,hk.id,hU hk.rr bG,hk.rs,fun q hq=>?_,fun s hs=>?_,?_,hk.as_⟩
 ·simp only[fK];have:=hk.n4;omega
 ·rcases ny.1 hq with rfl|hq
  ·simp[eR,g1,g2]
  ·exact hk.ranges q hq
 ·have h4:=hk.subs s hs;unfold nx at h4 ⊢;simp only[Xv]at h4 ⊢;refine⟨h4.1,?_,h4.2.2⟩;have h5:=h4.2.1;unfold fW at h5 ⊢;obtain⟨q,hq,h6⟩:=XR.1 h5;exact XR.2 ⟨q,ny.2 (.inr hq),h6⟩
 ·rw[pz];have hp:((dn (fun x:Rng=>x.at_.at_) r v.ranges).map (·.at_)).Perm (r.at_::v.ranges.map (·.at_)):=by
   refine((gH (fun x:Rng=>x.at_.at_) r v.ranges).map (·.at_)).trans ?_;rw[Xn];exact List.perm_append_singleton _ _
  refine(List.Perm.pairwise_iff (R:=fun a b:Pfx=>b.meets a=false) (fun {a b} gQ=>by rw[rm];exact gQ) hp).2 ?_;rw[YA];refine⟨fun a ha=>?_,pz.1 hk.ar⟩;obtain⟨q,hq,rfl⟩:=XF.1 ha;exact bQ q hq
theorem La [Flo](n:Net)(id:Int)(hz:rK n):ai prog 78 [.agg (cN n),.v (.int .i64 id)] (.tup [.agg (cN (jk n id).1),.v (.int .i64 (jk n id).2)]):=by
 obtain⟨R,hR⟩:∃R,R=jk n id:=⟨_,rfl⟩;rw[<-hR];replace hR:=Xi hR;have bo:=kn n hz;by_cases hc:cJ n=0
 ·have bD:=gw.1 hc;have h6:=bD.n6;have iE:=mg n bD.n6 bD.n12 bD.vp;have hw:ai prog 75 [.v (.int .i64 id),.v (.int .i64 1),.v (.int .i64 65536)] (.v (.bool (cD id))):=gI _ _ _;have dh:=iB n id aa;rw[kQ]at dh
  have aR:R=if iX n id≠0 then (Net.zero,iX n id)else ({n with vpcs:=dn (·.id) ⟨id,[],[]⟩ n.vpcs},0):=by rw[hR.out];unfold jk;rw[af (by simpa using hc)]
  unfold iX at aR;rw[hc]at bo;clear hR hc;cases b1:cD id with
  |false=>
   have hr:R=(Net.zero,3):=by rw[aR];simp[b1]
   rw[b1]at hw;rw[hr];clear aR hr bD;refine pj func78 ntmps78 results78 ?_;refine aq ?_<;>intros;all_goals exact dg
  |true=>
  rw[b1]at hw;cases hx:fk n id with
  |some i=>
   obtain⟨v,hv,he,hi,oK⟩:=eI hx;have hr:R=(Net.zero,6):=by rw[aR];simp[b1,oK]
   rw[hx]at dh
   simp only at dh
   have mC:decide ((i:Int)>=0)=true:=ak;rw[hr];clear aR hr bD hv he oK hx;refine pj func78 ntmps78 results78 ?_;refine aq ?_<;>intros;all_goals exact dg
  |none=>
  have SF:=d8 hx;rw[hx]at dh
  simp only at dh
  have Ac:decide ((-1:Int)>=0)=false:=rfl;by_cases F8:n.vpcs.length=6
  ·have hr:R=(Net.zero,2):=by rw[aR];simp[b1,SF,F8]
   have hd:decide ((n.vpcs.length:Int)>=6)=true:=aN;rw[hr];clear aR hr bD SF hx;replace F8:=Xi F8;refine pj func78 ntmps78 results78 ?_;refine aq ?_<;>intros;all_goals exact dg
  ·have hr:R=({n with vpcs:=dn (·.id) ⟨id,[],[]⟩ n.vpcs},0):=by rw[aR];simp[b1,SF,F8]
   have hd:decide ((n.vpcs.length:Int)>=6)=false:=aN;have bG:=yn SF;clear aR bD SF hx;replace hr:=Xi hr;replace bG:=Xi bG;refine pj func78 ntmps78 results78 ?_;have z1z:=Ln.mk (ls:=[]) (iE);refine aq ?_<;>intros;clear iE bo hw dh
   refine bL ag am (fun m e h=>∃(k g:Nat) (out:List Vpc) (f:Bool),k<=n.vpcs.length/\wb (fun v:Vpc=>v.id) ⟨id,[],[]⟩ n.vpcs k out f/\m=n.vpcs.length - k/\
    e=[(10,.d (.v (.int .i64 k))),(9,.d (.v (.bool f))),(8,.own 6 n.vpcs.length),(7,.ptr 7 0),(5,.d (.v (.int .i64 0))),(4,.ptr 1 0),(2,.ptr 0 0),(1,.d (.v (.int .i64 id)))]/\h=[.box 28 ((cN n).map .d),.box 28 [.d (.v (.slice none 0 0)),.d (.v (.slice none 0 0))],.gone,.gone,.row 76 2 1 (ab (n.links.map bS)),.gone,.row 55 3 n.vpcs.length (ab (n.vpcs.map au)),.box 28 [.own 8 g,.own 4 1],.row 55 3 g (ab (out.map au))]) _ _ _ ⟨0,0,[],false,XE _,Hs,rfl,rfl,rfl⟩ ?_ ?_
   ·refine(ax ak 7 28 [.d (.v (.slice none 0 0)),.own 4 1] 0 55 3 rfl rfl rfl).trans ?_;exact wf
   ·rintro m e h ⟨k,g,out,f,hk,fQ,hm,rfl,rfl⟩ C hC;replace hm:=Xi hm;have o4:=fQ.1;replace fQ:=Xi fQ;have qq:out.length<=7:=aa;have jQ:(out.length+1)*56<=140737488355328:=by clear o4 hk h6;omega
    have jT:(out.length+1+1)*56<=140737488355328:=by clear o4 hk h6 jQ;omega
    by_cases hlt:k < n.vpcs.length
    ·have dF:(k:Int) < (n.vpcs.length:Int):=aa;have cX:=wi k aa;obtain⟨y,hy⟩:∃y,n.vpcs[k]? =some y:=⟨_,Xj hlt⟩;have hyn:=bG.out y (Xk hy);replace hyn:=Xi hyn;cases f with
     |true=>
      have FY:=Xi (Ht fQ.out hy);refine aq ?_<;>intros;refine hC _ _ _ _ _ ?_ ⟨k+1,g+1,out++[y],true,hlt,FY.out,rfl,rfl,rfl⟩ (wf (hh:=(by simp only[cN,au,Xn,Xl,Xp,<-aI];rfl)));have:=hm.out;omega
     |false=>
      cases b4:decide (y.id>id)with
      |true=>
       have FY:=Xi (Hu fQ.out hy (of_decide_eq_true b4));refine aq ?_<;>intros;refine hC _ _ _ _ _ ?_ ⟨k+1,g+1+1,out++[⟨id,[],[]⟩]++[y],true,hlt,FY.out,rfl,rfl,rfl⟩ ((vg 8 rfl ak (rows':=ab ((out++[(⟨id,[],[]⟩:Vpc)]++[y]).map au)) (by(try rw[aI]);simp only[Xn,Xl,Xp,X3,X5,X8];exact sv dg) (lK (fun _=>rfl) _)).trans (wf));have:=hm.out;omega
      |false=>
       have FY:=Xi (Hv fQ.out hy (by have:=hyn.out;have:=of_decide_eq_false b4;show y.id < id;omega));refine aq ?_<;>intros;refine hC _ _ _ _ _ ?_ ⟨k+1,g+1,out++[y],false,hlt,FY.out,rfl,rfl,rfl⟩ (wf (hh:=(by simp only[cN,au,Xn,Xl,Xp,<-aI];rfl)));have:=hm.out;omega
    ·obtain rfl:k=n.vpcs.length:=aa;have kU:=hr.out;clear hC;cases f with
     |true=>
      have he:=CC fQ.out;rw[<-he]at kU;rw[kU];replace he:=Xi he;replace kU:=Xi kU;exact aY;all_goals exact dg
     |false=>
      have he:=CD fQ.out;rw[<-he]at kU;rw[kU];replace he:=Xi he;replace kU:=Xi kU;refine aq ?_<;>intros;all_goals
       simp only[cN,Xn,Xl,Xp];exact aO.tup ⟨aO.agg ⟨aO.sl (I6 dg) (by intro r hr d hd;obtain⟨x,-,rfl⟩:=XF.1 (by have h:r∈(out++[(⟨id,[],[]⟩:Vpc)]).map au:=(by rw[Xn];exact hr);exact h);exact XD.1 (show (au x).all D.one=true from rfl) d hd),aO.refl _,trivial⟩ rfl,aO.refl _,trivial⟩
 ·have h1:(cJ n !=0)=true:=by simpa using hc
  have hr:R=(Net.zero,cJ n):=by rw[hR.out];unfold jk;rw[ah hc]
  rw[hr];replace hr:=Xi hr;clear hR;refine pj func78 ntmps78 results78 ?_;refine aq ?_<;>intros;exact dg
theorem Br {n:Net}(bD:NetOK n){i:Nat}{v:Vpc}(hv:n.vpcs[i]? =some v){r:Rng}(hg:(cE v r).2=0):(cJ {n with vpcs:=n.vpcs.set i (cE v r).1}=0↔eS {n with vpcs:=n.vpcs.set i (cE v r).1}=true)/\rK {n with vpcs:=n.vpcs.set i (cE v r).1}:=by
 have oT:=bD.vp v (Xk hv);have P2:=EL hg;have bo:bM (cE v r).1=0:=K9 hg;obtain⟨hi,hve⟩:=Xm.1 hv;have LR:(n.vpcs.set i (cE v r).1).map (·.id)=n.vpcs.map (·.id):=a3x
 generalize (cE v r).1=w at*;have TB:∀u∈n.vpcs.set i w,bM u=0:=fun u hu=>by
  rcases Y4 hu with hu|rfl
  ·exact bD.vp u hu
  ·exact bo
 have Jh:(n.vpcs.set i w).Pairwise fun a b=>a.id < b.id:=by
  have h1:=bD.rise;rw[<-Y3 (f:=fun v:Vpc=>v.id) (R:=fun a b:Int=>a < b)]at h1 ⊢;rw[LR];exact h1
 have Qa:∀x,(gq {n with vpcs:=n.vpcs.set i w} x).isSome=(gq n x).isSome:=fun x=>by
  have key:∀l:List Vpc,(l.find? fun v=>v.id==x).isSome=decide (x∈l.map (·.id)):=fun l=>by
   induction l with
   |nil=>simp
   |cons a l ih=>
    rw[List.find?_cons];split
    ·rename_i h;simp at h;simp[h]
    ·rename_i h;rw[ih];simp at h;simp;exact fun e=>absurd e.symm h
  unfold gq;simp only;rw[key,key,LR]
 have kV:∀l∈n.links,lW {n with vpcs:=n.vpcs.set i w} l=true:=fun l hl=>by
  have:=bD.lk l hl;unfold lW at this ⊢;rw[Qa,Qa];exact this
 refine⟨⟨fun h=>(gw.1 h).pe,fun h=>gw.2 ⟨by simp;exact bD.n6,bD.n12,TB,Jh,kV,bD.rk,h⟩⟩,fun u hu=>?_⟩;have:=be (TB u hu);exact⟨by have:=this.n6;omega,fun s hs=>by have:=(this.n8 s hs).1;omega⟩
theorem Lb [Flo](n:Net)(id:Int)(r:Rng)(hz:rK n):ai prog 82 [.agg (cN n),.v (.int .i64 id),.agg (bp r)] (.tup [.agg (cN (iG n id r).1),.v (.int .i64 (iG n id r).2)]):=by
 obtain⟨R,hR⟩:∃R,R=iG n id r:=⟨_,rfl⟩;rw[<-hR];replace hR:=Xi hR;have bo:=kn n hz;by_cases hc:cJ n=0
 ·have bD:=gw.1 hc;have h6:=bD.n6;have iE:=mg n bD.n6 bD.n12 bD.vp;have dh:=iB n id aa;rw[kQ]at dh
  rw[hc]at bo;have Ac:decide ((-1:Int) < 0)=true:=rfl;cases hx:fk n id with
  |none=>
   rw[hx]at dh
   simp only at dh
   have hr:R=(Net.zero,5):=by rw[hR.out];unfold iG;rw[af (by simpa using hc),hx]
   rw[hr];clear hr hR bD hx hc;refine pj func82 ntmps82 results82 ?_;refine aq ?_<;>intros;all_goals exact dg
  |some i=>
   obtain⟨v,hv,he,hi,oK⟩:=eI hx;rw[hx]at dh
   simp only at dh
   have VY:=hz v (Xk hv);have hgp:=K8 v r VY.1 VY.2;have mC:decide ((i:Int) < 0)=false:=ak;have SP:(0:Int)<=(i:Int):=aa;have hiL:(i:Int) < (n.vpcs.length:Int):=aa;by_cases hg:(cE v r).2=0
   ·have hgc:=Br bD hv hg;have a1w:=kn _ hgc.2;have aR:R=if eS {n with vpcs:=n.vpcs.set i (cE v r).1}=true then ({n with vpcs:=n.vpcs.set i (cE v r).1},0)else (Net.zero,9):=by
     rw[hR.out];unfold iG;rw[af (by simpa using hc),hx];simp only[hv];rw[af (by simpa using hg)]
    rw[hg]at hgp;have S0:=hgc.1;clear hR bD hx hc hg oK hgc hz;replace he:=Xi he;generalize (cE v r).1=w at*;have b9:(ab (n.vpcs.map au)).set i [.d (.v (.int .i64 w.id)),.d (.sl 3 (w.ranges.map bp)),.d (.sl 4 (w.subs.map aT))]=ab ((n.vpcs.set i w).map au):=bN au n.vpcs i w;by_cases hq:cJ {n with vpcs:=n.vpcs.set i w}=0
    ·have hr:R=({n with vpcs:=n.vpcs.set i w},0):=by rw[aR,ah (S0.1 hq)]
     rw[hq]at a1w;rw[hr];clear hr aR hq S0;refine pj func82 ntmps82 results82 ?_;have z1z:=Ln.mk (ls:=[]) (iE);exact aY;all_goals exact dg
    ·have hr:R=(Net.zero,9):=by rw[aR,af (fun h=>hq (S0.2 h))]
     have hqb:(cJ {n with vpcs:=n.vpcs.set i w} !=0)=true:=by simpa using hq
     rw[hr];clear hr aR hq S0;generalize cJ {n with vpcs:=n.vpcs.set i w}=Q at*;refine pj func82 ntmps82 results82 ?_;have z1z:=Ln.mk (ls:=[]) (iE);refine aq ?_<;>intros;all_goals exact dg
   ·have hr:R=(Net.zero,(cE v r).2):=a4g
    have SV:((cE v r).2 !=0)=true:=by simpa using hg
    rw[hr];clear hr hR bD hx hc hg oK hz;replace he:=Xi he;generalize (cE v r).1=w at*;generalize (cE v r).2=E at*;refine pj func82 ntmps82 results82 ?_;refine aq ?_<;>intros;all_goals exact dg
 ·have h1:(cJ n !=0)=true:=by simpa using hc
  have hr:R=(Net.zero,cJ n):=by rw[hR.out];unfold iG;rw[ah hc]
  rw[hr];replace hr:=Xi hr;clear hR;refine pj func82 ntmps82 results82 ?_;refine aq ?_<;>intros;exact dg
def CE {α:Type}(key:α->Int)(x:α)(l:List α)(q:Nat)(out:List α):Prop:=q<=l.length/\out=l.take q++x::l.drop q/\∀y∈l.drop q,key x < key y
section
variable {α:Type}{key:α->Int}{x y:α}{l out:List α}{q:Nat}
theorem OK:CE key x l l.length (l++[x]):=⟨XA _,by simp,by simp⟩
theorem OL (h:CE key x l q out):out[q]? =some x:=by
 rw[h.2.1,XI (by rw[Xo];omega),Xo,show q - min q l.length=0 by have:=h.1;omega];rfl
theorem OM (h:CE key x l q out)(h0:0 < q)(hy:l[q - 1]? =some y):out[q - 1]? =some y:=by
 rw[h.2.1,XW (by rw[Xo];have:=h.1;omega),XP aa,hy]
theorem ON (h:CE key x l q out)(h0:0 < q)(hy:l[q - 1]? =some y)(hg:key y>key x):CE key x l (q - 1) ((out.set (q - 1) x).set q y):=by
 obtain⟨h1,h2,h3⟩:=h;obtain⟨hlt,he⟩:=Xm.1 hy;obtain⟨n,rfl⟩:∃n,q=n+1:=⟨q - 1,by omega⟩;simp only[Nat.add_sub_cancel]at hy hlt he ⊢;have hd:=kJ hy;have ht:=aj hy;refine⟨by omega,?_,fun z hz=>?_⟩
 ·rw[h2,ht,hd];have hl:(l.take n).length=n:=by rw[Xo];omega
  rw[X3,Yu _ _ aa,hl,YE,Yu _ _ aa,hl];simp
 ·rw[hd]at hz;rcases XY.1 hz with rfl|hz
  ·exact hg
  ·exact h3 z hz
theorem Bs (h:CE key x l q out)(hs:l.Pairwise fun a b=>key a < key b)(hl:∀y,0 < q->l[q - 1]? =some y->key y < key x):out=dn key x l:=by
 obtain⟨h1,h2,h3⟩:=h;have:jV key (key x) l=q:=by
  refine rf h1 (fun j hj hjq=>?_) (fun j hj hqj=>?_)
  ·have e1:=hl l[q - 1] aa (Xj aa);rcases XL j (q - 1)with h|h
   ·have:=XH.1 hs j (q - 1) hj aa h;omega
   ·obtain rfl:j=q - 1:=aa;exact e1
  ·have:=h3 l[j] (XZ.2 ⟨j - q,by rw[XO];omega,by rw[List.getElem_drop];congr 1;omega⟩);omega
 unfold dn;rw[this,h2]
end
theorem uG {α:Type}{f:α->Bool}{l:List α}{k:Nat}{x:α}(h:l[k]? =some x):(l.take (k+1)).filter f=if f x then (l.take k).filter f++[x]else (l.take k).filter f:=by
 rw[aj h,YT];cases hx:f x<;>simp[hx]
theorem a4o {p:Prop}(h:p:=by
 rintro (h|h|h)
 ·exact .inl h
 ·exact .inr (.inr h)
 ·exact .inr (.inl h)):p:=h
def yF (n:Net)(a b:Int):Bool:=n.vpcs.any fun v=>(bf n v.id==bf n a)&&n.vpcs.any fun w=>(bf n w.id==bf n b)&&((v.id !=w.id)&&dK v w)
theorem I7 {n:Net}{a b:Int}{v w:Vpc}(hv:v∈n.vpcs)(hw:w∈n.vpcs)(h1:bf n v.id=bf n a)(h2:bf n w.id=bf n b)(h3:v.id≠w.id)(h4:dK v w=true):yF n a b=true:=
 XR.2 ⟨v,hv,by simp only[h1,beq_self_eq_true,Yp];exact XR.2 ⟨w,hw,by simp[h2,h3,h4]⟩⟩
theorem I8 {n:Net}{a b:Int}(h:yF n a b=false){v w:Vpc}(hv:v∈n.vpcs)(hw:w∈n.vpcs)(h1:bf n v.id=bf n a)(h2:bf n w.id=bf n b)(h3:v.id≠w.id):dK v w=false:=by
 cases hb:dK v w with
 |false=>rfl
 |true=>rw[I7 hv hw h1 h2 h3 hb]at h;cases h
theorem Lc {n:Net}{l:Lnk}{x y:Int}{links:List Lnk}(hp:links.Perm (n.links++[l])):bf {n with links:=links} x=bf {n with links:=links} y↔gr (bf n) l x=gr (bf n) l y:=by
 rw[yB,yB,<-Hp];exact Ho fun m=>hp.mem_iff
theorem Bt {n:Net}(a b:Int){x y:Int}:gr (bf n) (fX a b) x=gr (bf n) (fX a b) y↔bf n x=bf n y\/(bf n x=bf n a/\bf n y=bf n b)\/(bf n x=bf n b/\bf n y=bf n a):=by
 rw[K5];rcases uz a b with⟨e,-⟩|⟨e,-⟩
 ·rw[e]
 ·rw[e];constructor
  ·exact a4o
  ·exact a4o
theorem OO {n:Net}{i j:Nat}{v w:Vpc}(hv:n.vpcs[i]? =some v)(hw:n.vpcs[j]? =some w)(h:v.id≠w.id):i≠j:=fun e=>by
 subst e;rw[hv]at hw;cases hw;exact h rfl
theorem Hw {n:Net}(bD:NetOK n)(a b:Int):eS {n with links:=dn gh (fX a b) n.links}=!yF n a b:=by
 have hjh:=fun x y=>Lc (n:=n) (l:=fX a b) (x:=x) (y:=y) (gH gh (fX a b) n.links);cases hw:yF n a b with
 |true=>
  unfold yF at hw;obtain⟨v,hv,h⟩:=XR.1 hw;rw[Xv,beq_iff_eq]at h;obtain⟨h1,h⟩:=h;obtain⟨w,hw,h⟩:=XR.1 h;simp only[Xv,beq_iff_eq,bne_iff_ne,ne_eq]at h;obtain⟨h2,h3,h4⟩:=h;obtain⟨i,hi⟩:=Zd.1 hv;obtain⟨j,hj⟩:=Zd.1 hw;refine uF (n:={n with links:=dn gh (fX a b) n.links}) (OO hi hj h3) hi hj ?_;unfold kK;rw[h4,Yx,beq_iff_eq,hjh,Bt];exact .inr (.inl ⟨h1,h2⟩)
 |false=>
  refine ro (n:={n with links:=dn gh (fX a b) n.links}) fun i v w hv CZ=>?_;have bG:=I4 bD.rise hv CZ;have Dh:=Xk hv;have co:=Yf CZ;unfold kK;cases hc:dK v w with
  |false=>rw[Bool.and_false]
  |true=>
   rw[Yx,beq_eq_false_iff_ne,ne_eq,hjh,Bt];rintro (h|h|h)
   ·obtain⟨j,hj⟩:=Zd.1 co;have:=uF (n:=n) (OO (n:=n) hj hv bG).symm hv hj (by unfold kK;rw[hc,h];simp);rw[bD.pe]at this;cases this
   ·have:=I8 hw Dh co h.1 h.2 bG.symm;rw[hc]at this;cases this
   ·have:=I8 hw co Dh h.2 h.1 bG;rw[vG,hc]at this;cases this
theorem R7 {y l:Lnk}(h1:1<=y.b/\y.b<=65536)(h2:1<=l.b/\l.b<=65536):gh y < gh l↔y.a < l.a\/(y.a=l.a/\y.b < l.b):=by
 unfold gh;constructor<;>intro h<;>omega
theorem yG (n:Net)(a b:Int):kD n a b=decide (fX a b∈n.links):=by
 unfold kD;rw[Yi,XR];simp
theorem CF {l:List Lnk}(hn:l.Nodup){x:Lnk}{i:Nat}(h:l.findIdx? (fun y=>decide (x=y))=some i):l.filter (fun y=>!decide (y=x))=l.eraseIdx i:=by
 obtain⟨hi,he,-⟩:=XK.1 h;have he:x=l[i]:=by simpa using he
 subst he;have e1:l=l.take i++l[i]::l.drop (i+1):=by rw[<-YN hi,YV]
 have hd:∀j (hj:j < l.length),j≠i->l[j]≠l[i]:=fun j hj kX he=>by
  rcases V' kX with h|h
  ·exact XH.1 hn j i hj hi h he
  ·exact XH.1 hn i j hi hj h he.symm
 have key:∀(A B:List Lnk) (x:Lnk),(∀y∈A,y≠x)->(∀y∈B,y≠x)->(A++x::B).filter (fun y=>!decide (y=x))=A++B:=fun A B x hA hB=>by
  rw[YT,Zw];simp only[decide_true,Z7,Yz,if_false];rw[YY.2 (fun y hy=>by simpa using hA y hy),YY.2 (fun y hy=>by simpa using hB y hy)]
 refine(congrArg (List.filter _) e1).trans ((key _ _ _ (fun y hy=>?_) fun y hy=>?_).trans (YG l i).symm)
 ·obtain⟨j,hj,rfl⟩:=XZ.1 hy;rw[ZD];rw[Xo]at hj;exact hd j aa aa
 ·obtain⟨j,hj,rfl⟩:=XZ.1 hy;rw[List.getElem_drop];rw[XO]at hj;exact hd (i+1+j) aa aa
theorem Fm {n:Net}(bD:NetOK n):n.links.Nodup:=bD.lsort.imp fun h e=>by rw[e]at h;omega
theorem Ld [Flo](n:Net)(a b:Int)(hz:rK n):ai prog 80 [.agg (cN n),.v (.int .i64 a),.v (.int .i64 b)] (.tup [.agg (cN (ji n a b).1),.v (.int .i64 (ji n a b).2)]):=by
 obtain⟨R,hR⟩:∃R,R=ji n a b:=⟨_,rfl⟩;rw[<-hR];replace hR:=Xi hR;have bo:=kn n hz;by_cases hc:cJ n=0
 ·have bD:=gw.1 hc;have Pu:=bD.n12;have iE:=mg n bD.n6 bD.n12 bD.vp;have Qb:=uE n a b aa;rw[yG]at Qb;rw[hc]at bo;have gA:fX a b∈n.links↔(n.links.findIdx? (fun l=>decide (fX a b=l))).isSome=true:=by
   rw[List.findIdx?_isSome,XR];simp
  cases hf:n.links.findIdx? (fun l=>decide (fX a b=l))with
  |none=>
   have FX:fX a b∉n.links:=fun h=>by rw[gA,hf]at h;cases h
   have hr:R=(Net.zero,5):=by rw[hR.out];unfold ji;rw[af (by simpa using hc),hf]
   rw[decide_eq_false FX]at Qb;rw[hr];clear hr hR hf hc bD FX gA;refine pj func80 ntmps80 results80 ?_;refine aq ?_<;>intros;all_goals exact dg
  |some i=>
   have HT:fX a b∈n.links:=by rw[gA,hf];rfl
   have hr:R=({n with links:=n.links.filter fun y=>!decide (y=fX a b)},0):=by rw[hR.out];unfold ji;rw[af (by simpa using hc),hf,CF (Fm bD) hf]
   rw[decide_eq_true HT]at Qb;replace hr:=Xi hr;clear hR hf hc bD HT gA;refine pj func80 ntmps80 results80 ?_;have z1z:=Ln.mk (ls:=[]) (iE);refine aq ?_<;>intros;clear iE bo Qb;refine bL ag am (fun m e h=>∃(k g:Nat),k<=n.links.length/\m=n.links.length - k/\
    e=[(10,.d (.v (.int .i64 k))),(9,.ptr 7 0),(7,.d (.v (.int .i64 0))),(6,.ptr 1 0),(3,.ptr 0 0),(2,.d (.v (.int .i64 b))),(1,.d (.v (.int .i64 a)))]/\h=[.box 28 ((cN n).map .d),.box 28 [.d (.v (.slice none 0 0)),.d (.v (.slice none 0 0))],.gone,.gone,.row 76 2 1 (ab (n.links.map bS)),.gone,.row 55 3 n.vpcs.length (ab (n.vpcs.map au)),.box 28 [.own 6 n.vpcs.length,.own 8 g],.row 76 2 g (ab (((n.links.take k).filter fun y=>!decide (y=fX a b)).map bS))]) _ _ _ ⟨0,0,XE _,rfl,rfl,rfl⟩ ?_ ?_
   ·refine(ax ak 7 28 [.own 6 n.vpcs.length,.d (.v (.slice none 0 0))] 1 76 2 rfl rfl rfl).trans ?_;exact wf
   ·rintro m e h ⟨k,g,hk,hm,rfl,rfl⟩ C hC;replace hm:=Xi hm;by_cases hlt:k < n.links.length
    ·have dF:(k:Int) < (n.links.length:Int):=aa;have cX:=wi k aa;obtain⟨y,hy⟩:∃y,n.links[k]? =some y:=⟨_,Xj hlt⟩;have he:([y.a,y.b] !=[if b < a then b else a,if a < b then b else a])=!decide (y=fX a b):=congrArg (fun t=>!t) (yj y (fX a b));have ip:((n.links.take k).filter fun y=>!decide (y=fX a b)).length<=k:=by
      have:=Y8 (fun y=>!decide (y=fX a b)) (n.links.take k);rw[Xo]at this;omega
     have jQ:((n.links.take k).filter fun y=>!decide (y=fX a b)).length+1<=100:=aa;have dN:=uG (f:=fun y=>!decide (y=fX a b)) hy;replace dN:=Xi dN;replace ip:=Xi ip;generalize (n.links.take k).filter (fun y=>!decide (y=fX a b))=L at*;cases b1:decide (y=fX a b)with
     |true=>
      rw[b1]at dN he;refine aq ?_<;>intros;refine hC _ _ _ _ _ ?_ ⟨k+1,g,hlt,rfl,rfl,rfl⟩ (wf (hh:=(by rw[dN.out];simp only[cN,Z7,Yz,if_false];rfl)));have:=hm.out;omega
     |false=>
      rw[b1]at dN he;refine aq ?_<;>intros;refine hC _ _ _ _ _ ?_ ⟨k+1,g+1,hlt,rfl,rfl,rfl⟩ (wf (hh:=(by rw[dN.out];simp only[cN,Bool.not_false,if_true,Xn,Xl,Xp,<-aI];rfl)));have:=hm.out;omega
    ·obtain rfl:k=n.links.length:=aa;(try rw[Xq])
     have kU:=hr.out;rw[kU];replace kU:=Xi kU;clear hC;exact aY;all_goals exact dg
 ·have h1:(cJ n !=0)=true:=by simpa using hc
  have hr:R=(Net.zero,cJ n):=by rw[hR.out];unfold ji;rw[ah hc]
  rw[hr];replace hr:=Xi hr;clear hR;refine pj func80 ntmps80 results80 ?_;refine aq ?_<;>intros;exact dg
theorem Le [Flo](n:Net)(a b:Int)(hz:rK n):ai prog 79 [.agg (cN n),.v (.int .i64 a),.v (.int .i64 b)] (.tup [.agg (cN (jY n a b).1),.v (.int .i64 (jY n a b).2)]):=by
 obtain⟨R,hR⟩:∃R,R=jY n a b:=⟨_,rfl⟩;rw[<-hR];replace hR:=Xi hR;have bo:=kn n hz;by_cases hc:cJ n=0
 ·have bD:=gw.1 hc;have h6:=bD.n6;have Pu:=bD.n12;have tN:R=if d4 n a b≠0 then (Net.zero,d4 n a b)else ({n with links:=dn gh (fX a b) n.links},0):=by rw[hR.out];unfold jY;rw[af (by simpa using hc)]
  rw[hc]at bo;by_cases gQ:a=b
  ·have Vr:(a==b)=true:=by simpa using gQ
   have hr:R=(Net.zero,3):=by rw[tN,show d4 n a b=3 by unfold d4;rw[ah gQ]];rfl
   rw[hr];clear hr hR tN bD hc;replace gQ:=Xi gQ;refine pj func79 ntmps79 results79 ?_;refine aq ?_<;>intros;all_goals exact dg
  have Vr:(a==b)=false:=by simpa using gQ
  have j1:=iB n a aa;have mB:=iB n b aa;rw[kQ]at j1 mB;have Ac:decide ((-1:Int) < 0)=true:=rfl;cases De:fk n a with
  |none=>
   rw[De]at j1;simp only at j1;have hr:R=(Net.zero,5):=by rw[tN,show d4 n a b=5 by unfold d4;rw[af gQ,d8 De];simp];rfl
   rw[hr];clear hr hR tN bD hc De mB;replace gQ:=Xi gQ;refine pj func79 ntmps79 results79 ?_;refine aq ?_<;>intros;all_goals exact dg
  |some ia=>
  rw[De]at j1;simp only at j1;obtain⟨va,S1,SW,SX,wl⟩:=eI De;have a1Q:decide ((ia:Int) < 0)=false:=ak;cases o3:fk n b with
  |none=>
   rw[o3]at mB;simp only at mB;have hr:R=(Net.zero,5):=by rw[tN,show d4 n a b=5 by unfold d4;rw[af gQ,d8 o3];simp];rfl
   rw[hr];clear hr hR tN bD hc De o3 S1 SW wl;replace gQ:=Xi gQ;refine pj func79 ntmps79 results79 ?_;refine aq ?_<;>intros;all_goals exact dg
  |some ib=>
  rw[o3]at mB;simp only at mB;obtain⟨vb,Pe,Vq,hib,Ao⟩:=eI o3;have a1R:decide ((ib:Int) < 0)=false:=ak;have Qb:=uE n a b aa;rw[yG]at Qb;have Jp:=Hw bD a b;have aR:R=if fX a b∈n.links then (Net.zero,6)else if yF n a b=true then (Net.zero,9)else if n.links.length+1>12 then (Net.zero,2)else ({n with links:=dn gh (fX a b) n.links},0):=by
   rw[tN];unfold d4;rw[af gQ,wl,Ao,Jp];simp only[reduceCtorEq,or_self,if_false];split
   ·rfl
   ·cases yF n a b
    ·simp only[Bool.not_false,Bool.true_eq_false,if_false];split<;>rfl
    ·rfl
  clear hR tN Jp;by_cases dM:fX a b∈n.links
  ·have hr:R=(Net.zero,6):=by rw[aR,ah dM]
   rw[decide_eq_true dM]at Qb;rw[hr];clear hr aR bD hc De o3 S1 SW wl Pe Vq Ao dM;replace gQ:=Xi gQ;refine pj func79 ntmps79 results79 ?_;refine aq ?_<;>intros;all_goals exact dg
  rw[af dM]at aR;rw[decide_eq_false dM]at Qb;have VD:∀l∈n.links,l.a∈n.vpcs.map (·.id)/\l.b∈n.vpcs.map (·.id)/\l.a < l.b:=fun l hl=>by
   have:=bD.lk l hl;unfold lW at this;simp only[Xv,decide_eq_true_eq]at this;exact⟨gu this.1,gu this.2.1,this.2.2⟩
  have VZ:=yC n a ia De h6 Pu bD.rise VD;have SV:=yC n b ib o3 h6 Pu bD.rise VD;have a1x:=CB n a;have a1y:=CB n b;have PO:∀(k:Nat) (x:Int),(pJ n a)[k]? =some x->∃j w,n.vpcs[j]? =some w/\w.id=x/\fk n x=some j/\bf n x=bf n a:=fun k x h=>Hq bD.rise h;have PP:∀(k:Nat) (x:Int),(pJ n b)[k]? =some x->∃j w,n.vpcs[j]? =some w/\w.id=x/\fk n x=some j/\bf n x=bf n b:=fun k x h=>Hq bD.rise h;have PQ:∀w∈n.vpcs,bf n w.id=bf n a->w.id∈pJ n a:=fun w hw h=>CA hw h;have PR:∀w∈n.vpcs,bf n w.id=bf n b->w.id∈pJ n b:=fun w hw h=>CA hw h;have iE:=mg n bD.n6 bD.n12 bD.vp;have S2:∀(i j:Nat) (u v:Vpc),n.vpcs[i]? =some u->n.vpcs[j]? =some v->u.id=v.id->u=v:=fun i j u v hu hv h=>by
   have e1:=pQ bD.rise hu;have e2:=pQ bD.rise hv;rw[h,e2]at e1;cases e1;rw[hu]at hv;exact XU.inj hv
  have j0:∀l∈n.links,1<=l.b/\l.b<=65536:=fun l hl=>bD.bd (bD.ids l hl).2;have FU:1<=(fX a b).b/\(fX a b).b<=65536:=by
   have h1:=bD.bd (gu (n:=n) (x:=a) (by rw[wl];rfl));have h2:=bD.bd (gu (n:=n) (x:=b) (by rw[Ao];rfl));rcases uz a b with⟨e,-⟩|⟨e,-⟩
   ·rw[e];exact h2
   ·rw[e];exact h1
  have wm:=bD.lsort;have bG:∀y∈n.links,gh y≠gh (fX a b):=fun y hy e=>dM (by rw[<-EO (j0 y hy) FU e];exact hy);have hrg:∀(j:Nat) (w:Vpc),n.vpcs[j]? =some w->w.ranges.length<=4:=fun j w hw=>(be (bD.vp w (Xk hw))).n4;have FX:∀(i j:Nat) (v w:Vpc),n.vpcs[i]? =some v->n.vpcs[j]? =some w->bf n v.id=bf n a->bf n w.id=bf n b->v.id≠w.id->dK v w=true->yF n a b=true:=fun i j v w hv hw h1 h2 h3 h4=>I7 (Xk hv) (Xk hw) h1 h2 h3 h4;clear bD hc De o3 S1 SW wl Pe Vq Ao dM VD;replace aR:=Xi aR;replace PO:=Xi PO;replace PP:=Xi PP;replace PQ:=Xi PQ;replace PR:=Xi PR;replace j0:=Xi j0;replace FU:=Xi FU;replace wm:=Xi wm;replace bG:=Xi bG;replace hrg:=Xi hrg;replace FX:=Xi FX;replace S2:=Xi S2;replace gQ:=Xi gQ;obtain⟨GA,hGA⟩:∃GA,GA=pJ n a:=⟨_,rfl⟩;obtain⟨GB,hGB⟩:∃GB,GB=pJ n b:=⟨_,rfl⟩;rw[<-hGA]at VZ a1x PO PQ;rw[<-hGB]at SV a1y PP PR;clear hGA hGB;refine pj func79 ntmps79 results79 ?_;refine aq ?_<;>intros;clear bo j1 mB Qb VZ SV;refine bq ag am GA (fun i=>∀v∈n.vpcs,∀w∈n.vpcs,v.id∈GA.take i->w.id∈GB->v.id≠w.id->dK v w=false) (fun i=>[(11,.d (.v (.int .i64 i))),(10,.d (.sl 1 (GB.map cm))),(9,.d (.sl 1 (GA.map cm))),(7,.d (.v (.int .i64 0))),(6,.ptr 1 0),(3,.ptr 0 0),(2,.d (.v (.int .i64 b))),(1,.d (.v (.int .i64 a)))]) (fun _=>[.box 28 ((cN n).map .d),.box 28 [.d (.v (.slice none 0 0)),.d (.v (.slice none 0 0))]]) ak (wf) ?_ ?_
  ·intro i x hx hi hI C hC;have SP:(i:Int) < (GA.length:Int):=aa;have Ai:=wi i aa;obtain⟨p,v,hv,H2,hpx,VB⟩:=PO.out i x hx;have dN:(∀w∈n.vpcs,w.id∈GB->v.id≠w.id->dK v w=false)->∀v∈n.vpcs,∀w∈n.vpcs,v.id∈GA.take (i+1)->w.id∈GB->v.id≠w.id->dK v w=false:=fun h u hu w hw hug hwg bG=>by
    rw[aj hx]at hug;rcases X0.1 hug with hug|hug
    ·exact hI u hu w hw hug hwg bG
    ·have e1:u.id=x:=Yc.1 hug;obtain⟨q,hq⟩:=Zd.1 hu;have e3:u=v:=S2.out q p u v hq hv (e1.trans H2.symm);rw[e3]at bG ⊢;exact h w hw hwg bG
   replace hI:=Xi hI;replace dN:=Xi dN;refine aq ?_<;>intros;refine bq ag am GB (fun j=>∀w∈n.vpcs,w.id∈GB.take j->v.id≠w.id->dK v w=false) (fun j=>[(12,.d (.v (.int .i64 j))),(11,.d (.v (.int .i64 i))),(10,.d (.sl 1 (GB.map cm))),(9,.d (.sl 1 (GA.map cm))),(7,.d (.v (.int .i64 0))),(6,.ptr 1 0),(3,.ptr 0 0),(2,.d (.v (.int .i64 b))),(1,.d (.v (.int .i64 a)))]) (fun _=>[.box 28 ((cN n).map .d),.box 28 [.d (.v (.slice none 0 0)),.d (.v (.slice none 0 0))]]) ak (wf) ?_ ?_
   ·intro j y hy hj hJ C2 jU;have lh:(j:Int) < (GB.length:Int):=aa;have mW:=wi j aa;obtain⟨q,w,hw,Qd,hqy,hhy⟩:=PP.out j y hy;have Di:(x≠y->dK v w=false)->∀w∈n.vpcs,w.id∈GB.take (j+1)->v.id≠w.id->dK v w=false:=fun h u hu hug bG=>by
     rw[aj hy]at hug;rcases X0.1 hug with hug|hug
     ·exact hJ u hu hug bG
     ·have e1:u.id=y:=Yc.1 hug;obtain⟨r,hr⟩:=Zd.1 hu;have e3:u=w:=S2.out r q u w hr hw (e1.trans Qd.symm);rw[e3]at bG ⊢;exact h (by rw[<-H2,<-Qd];exact bG)
    by_cases Jt:x=y
    ·have e1:(x !=y)=false:=by simpa using Jt
     have hn:=Di fun h=>absurd Jt h;clear Di hJ;replace hn:=Xi hn;replace Jt:=Xi Jt;replace H2:=Xi H2;replace Qd:=Xi Qd;refine aq ?_<;>intros;exact jU _ _ hn.out (wf)
    ·have e1:(x !=y)=true:=by simpa using Jt
     have a0u:=iB n x aa;have a0v:=iB n y aa;rw[kQ,hpx]at a0u;rw[kQ,hqy]at a0v;simp only at a0u a0v;have qw:=hrg.out p v hv;have kU:=hrg.out q w hw;have gB:=Fg v w aa aa;have hp0:(0:Int)<=(p:Int):=aa;have VC:(0:Int)<=(q:Int):=aa;have gz:(p:Int) < (n.vpcs.length:Int):=by have:=(Xm.1 hv).1;omega
     have uL:(q:Int) < (n.vpcs.length:Int):=by have:=(Xm.1 hw).1;omega
     clear qw kU;replace hJ:=Xi hJ;replace hpx:=Xi hpx;replace hqy:=Xi hqy;cases hb:dK v w with
     |true=>
      have hr:R=(Net.zero,9):=by
       rw[aR.out,ah (FX.out p q v w hv hw (by rw[H2];exact VB) (by rw[Qd];exact hhy) (by rw[H2,Qd];exact Jt) hb)]
      rw[hb]at gB;rw[hr];clear hr Di hb VB hhy;replace Jt:=Xi Jt;replace H2:=Xi H2;replace Qd:=Xi Qd;refine aq ?_<;>intros;all_goals exact dg
     |false=>
      have hn:=Di fun _=>hb;rw[hb]at gB;clear Di hb VB hhy;replace hn:=Xi hn;replace Jt:=Xi Jt;replace H2:=Xi H2;replace Qd:=Xi Qd;refine aq ?_<;>intros;exact jU _ _ hn.out (wf)
   ·intro hJ C2;rw[Xq]at hJ;have hn:=dN.out hJ;replace hJ:=Xi hJ;replace hn:=Xi hn;replace H2:=Xi H2;refine aq ?_<;>intros;exact hC _ _ hn.out (wf)
  ·intro hI C;rw[Xq]at hI;have a0w:yF n a b=false:=by
    cases hw:yF n a b with
    |false=>rfl
    |true=>
     unfold yF at hw;obtain⟨v,hv,h⟩:=XR.1 hw;rw[Xv,beq_iff_eq]at h;obtain⟨h1,h⟩:=h;obtain⟨w,hw,h⟩:=XR.1 h;simp only[Xv,beq_iff_eq,bne_iff_ne,ne_eq]at h;obtain⟨h2,h3,h4⟩:=h;rw[hI v hv w hw (PQ.out v hv h1) (PR.out w hw h2) h3]at h4;cases h4
   have gn:R=if n.links.length+1>12 then (Net.zero,2)else ({n with links:=dn gh (fX a b) n.links},0):=by rw[aR.out,a0w,af ak]
   clear hI a0w PQ PR PO PP FX;by_cases S3:n.links.length=12
   ·have hd:decide ((n.links.length:Int)>=12)=true:=aN;have hr:R=(Net.zero,2):=by rw[gn,ah aa]
    rw[hr];clear hr gn;replace S3:=Xi S3;refine aq ?_<;>intros;all_goals exact dg
   ·have hd:decide ((n.links.length:Int)>=12)=false:=aN;have hr:R=({n with links:=dn gh (fX a b) n.links},0):=by rw[gn,af aa]
    have jQ:n.links.length+1<=100:=aa;have hwl:IntKind.i64.wrap (((n.links.length+1:Nat):Int) - 1)=(n.links.length:Int):=by rw[IntKind.wrap_i64];omega
    clear gn;replace hr:=Xi hr;replace S3:=Xi S3;have oJ:fX a b=⟨if b < a then b else a,if a < b then b else a⟩:=rfl;have z1z:=Ln.mk (ls:=[]) (iE);refine aq ?_<;>intros;clear iE;refine bL ag am (fun m e h=>∃(q:Nat) (out:List Lnk),CE gh (fX a b) n.links q out/\out.length=n.links.length+1/\m=q/\e=[(14,.d (.v (.int .i64 q))),(13,.ptr 7 0),(7,.d (.v (.int .i64 0))),(6,.ptr 1 0)]/\
     h=[.box 28 ((cN n).map .d),.box 28 [.d (.v (.slice none 0 0)),.d (.v (.slice none 0 0))],.gone,.gone,.row 76 2 2 (ab (out.map bS)),.gone,.row 55 3 n.vpcs.length (ab (n.vpcs.map au)),.box 28 [.own 6 n.vpcs.length,.own 4 2]]) _ _ _ ⟨n.links.length,n.links++[fX a b],OK,by simp,rfl,rfl,rfl⟩ (wf (hh:=(by rw[Xn];rfl)) (hb:=cH) (hbh:=cH)) ?_
    rintro m e h ⟨q,out,vR,o4,hm,rfl,rfl⟩ C2 jU;clear oJ;generalize fX a b=LK at*;have uL:=vR.1;have hx:=OL vR;replace vR:=Xi vR;replace hm:=Xi hm;by_cases h0:0 < q
    ·have VC:decide ((q:Int)>0)=true:=aN;obtain⟨y,hy⟩:∃y,n.links[q - 1]? =some y:=⟨_,Xj aa⟩;have P5:=OM vR.out h0 hy;have CZ:IntKind.i64.wrap ((q:Int) - 1)=((q - 1:Nat):Int):=by rw[IntKind.wrap_i64];omega
     have qz:q < out.length:=aa;have hq3:q - 1 < out.length:=aa;have wF:=R7 (j0.out y (Xk hy)) FU.out;have Js:=bG.out y (Xk hy);replace o4:=Xi o4;replace h0:=Xi h0;replace hy:=Xi hy;by_cases hlt:gh y < gh LK
     ·have he:=Bs vR.out wm.out (fun z _ hz=>by
       rw[hy.out]at hz;rw[<-XU.inj hz];exact hlt)
      have kU:=hr.out;rw[<-he]at kU;rw[kU];have fP:=wF.1 hlt;clear wF Js hlt;replace kU:=Xi kU;replace he:=Xi he;by_cases oJ:y.a < LK.a
      ·have e1:decide (y.a < LK.a)=true:=by simpa using oJ
       clear fP oJ;exact aY;all_goals exact dg
      ·have e1:decide (y.a < LK.a)=false:=by simpa using oJ
       have e2:(y.a==LK.a)=true:=aN;have e3:decide (y.b < LK.b)=true:=aN;clear fP oJ;exact aY;all_goals exact dg
     ·have fP:¬(y.a < LK.a\/(y.a=LK.a/\y.b < LK.b)):=fun h=>hlt (wF.2 h);have jT:=ON vR.out h0.out hy.out (show gh y>gh LK by omega);clear wF Js hlt;replace jT:=Xi jT;have e1:decide (y.a < LK.a)=false:=aN;have PL:∀X:List PV,((ab (out.map bS)).set (q - 1) X)[q]? =some [.d (.v (.int .i64 LK.a)),.d (.v (.int .i64 LK.b))]:=fun X=>by
       rw[C' (by have:=h0.out;omega),iu,Xr,hx];rfl
      by_cases oJ:y.a=LK.a
      ·have e2:(y.a==LK.a)=true:=by simpa using oJ
       have e3:decide (y.b < LK.b)=false:=aN;clear fP oJ;refine aq ?_<;>intros;refine jU _ _ _ _ _ ?_ ⟨q - 1,(out.set (q - 1) LK).set q y,jT.out,by rw[YS,YS];exact o4.out,rfl,rfl,rfl⟩ (wf (hh:=(by simp only[ZU,ab];rfl)) (hb:=cH) (hbh:=cH));have:=hm.out;have:=h0.out;omega
      ·have e2:(y.a==LK.a)=false:=by simpa using oJ
       clear fP oJ;refine aq ?_<;>intros;refine jU _ _ _ _ _ ?_ ⟨q - 1,(out.set (q - 1) LK).set q y,jT.out,by rw[YS,YS];exact o4.out,rfl,rfl,rfl⟩ (wf (hh:=(by simp only[ZU,ab];rfl)) (hb:=cH) (hbh:=cH));have:=hm.out;have:=h0.out;omega
    ·have VC:decide ((q:Int)>0)=false:=aN;have he:=Bs vR.out wm.out (fun z h _=>absurd h h0);have kU:=hr.out;rw[<-he]at kU;rw[kU];replace kU:=Xi kU;replace he:=Xi he;replace h0:=Xi h0;replace o4:=Xi o4;exact aY;all_goals exact dg
 ·have h1:(cJ n !=0)=true:=by simpa using hc
  have hr:R=(Net.zero,cJ n):=by rw[hR.out];unfold jY;rw[ah hc]
  rw[hr];replace hr:=Xi hr;clear hR;refine pj func79 ntmps79 results79 ?_;refine aq ?_<;>intros;exact dg
theorem yH {α:Type}{l m:List α}{k:Nat}{x y:α}(hx:l[k]? =some x)(hy:m[k]? =some y)(h:l.take k=m.take k)(e:x=y):l.take (k+1)=m.take (k+1):=by rw[aj hx,aj hy,h,e]
theorem yI {α:Type}{l m:List α}(hl:l.length=m.length)(h:l.take l.length=m.take l.length):l=m:=by
 rw[Xq,hl,Xq]at h;exact h
theorem Hy [Flo](v w:Vpc)(Dh:v.ranges.length<=1000000000)(VQ:v.subs.length<=1000000000)(VR:∀s∈v.subs,s.faces.length<=1000000000/\∀f∈s.faces,f.addrs.length<=1000000000)(qP:∀s∈w.subs,∀f∈s.faces,f.addrs.length<=1000000000):ai prog 110 [.agg (au v),.agg (au w)] (.v (.bool (decide (v=w)))):=by
 obtain⟨R,hR⟩:∃R,R=decide (v=w):=⟨_,rfl⟩;rw[<-hR];replace hR:=Xi hR;have bQ:v≠w->R=false:=fun h=>by rw[hR.out];exact decide_eq_false h
 replace bQ:=Xi bQ;replace VR:=Xi VR;replace qP:=Xi qP;by_cases c1:v.id=w.id/\v.ranges.length=w.ranges.length/\v.subs.length=w.subs.length
 ·obtain⟨e1,e2,e3⟩:=c1;have d1:(v.id !=w.id)=false:=by simp[e1]
  have d2:((v.ranges.length:Int) !=(w.ranges.length:Int))=false:=by simp[e2]
  have d3:((v.subs.length:Int) !=(w.subs.length:Int))=false:=by simp[e3]
  replace e1:=Xi e1;replace e2:=Xi e2;replace e3:=Xi e3;refine pj func110 ntmps110 results110 ?_;refine aq ?_<;>intros;refine bq ag am v.ranges (fun k=>v.ranges.take k=w.ranges.take k) (fun k=>[(5,.d (.v (.int .i64 k))),(4,.d (.v (.bool false))),(3,.ptr 1 0),(2,.ptr 0 0)]) (fun _=>[.box 55 ((au v).map .d),.box 55 ((au w).map .d)]) rfl (wf) ?_ ?_
  ·intro k x hx hk hI C hC;have dF:(k:Int) < (v.ranges.length:Int):=aa;have cX:=wi k aa;obtain⟨y,hy⟩:∃y,w.ranges[k]? =some y:=⟨_,Xj (by rw[<-e2.out];exact hk)⟩;replace hI:=Xi hI;have he:=ye x y;by_cases h1:x=y
   ·have mY:=Xi (yH hx hy hI.out h1);rw[decide_eq_true h1]at he;replace h1:=Xi h1;have z1z:=@bne.eq_1 (List Int) _;have z2z:=@bne.eq_1 Int _;refine aq ?_<;>intros;exact hC _ _ mY.out (wf)
   ·have hb:R=false:=bQ.out (fun e=>h1 (by subst e;rw[hx]at hy;exact XU.inj hy));rw[decide_eq_false h1]at he;rw[hb];replace hb:=Xi hb;replace h1:=Xi h1;have z1z:=@bne.eq_1 (List Int) _;have z2z:=@bne.eq_1 Int _;exact aY;all_goals exact aO.refl _
  ·intro hI C;have oR:=Xi (yI e2.out hI);replace hI:=Xi hI;refine aq ?_<;>intros;clear hI;refine bq ag am v.subs (fun k=>v.subs.take k=w.subs.take k) (fun k=>[(6,.d (.v (.int .i64 k))),(4,.d (.v (.bool false))),(3,.ptr 1 0),(2,.ptr 0 0)]) (fun _=>[.box 55 ((au v).map .d),.box 55 ((au w).map .d)]) rfl (wf) ?_ ?_
   ·intro k x hx hk hI C hC;have dF:(k:Int) < (v.subs.length:Int):=aa;have cX:=wi k aa;obtain⟨y,hy⟩:∃y,w.subs[k]? =some y:=⟨_,Xj (by rw[<-e3.out];exact hk)⟩;have HL:=VR.out x (Xk hx);have tB:=qP.out y (Xk hy);have a1S:=HL.1;have a1z:=Xi HL.2;clear HL;replace tB:=Xi tB;have bE:x≠y->R=false:=fun h=>bQ.out (fun e=>h (by subst e;rw[hx]at hy;exact XU.inj hy));replace bE:=Xi bE;replace hI:=Xi hI;have he:=yg x.at_ y.at_;by_cases c2:x.id=y.id/\x.at_=y.at_/\x.faces.length=y.faces.length
    ·obtain⟨f1,f2,f3⟩:=c2;have g1:(x.id==y.id)=true:=by simp[f1]
     have g3:((x.faces.length:Int)==(y.faces.length:Int))=true:=by simp[f3]
     rw[decide_eq_true f2]at he;replace f1:=Xi f1;replace f2:=Xi f2;replace f3:=Xi f3;have z1z:=@bne.eq_1 (List Int) _;have z2z:=@bne.eq_1 Int _;refine aq ?_<;>intros;refine bq ag am x.faces (fun j=>x.faces.take j=y.faces.take j) (fun j=>[(9,.d (.v (.int .i64 j))),(8,.ptr 3 0),(7,.ptr 2 0),(6,.d (.v (.int .i64 k))),(4,.d (.v (.bool false))),(3,.ptr 1 0),(2,.ptr 0 0)]) (fun _=>[.box 55 ((au v).map .d),.box 55 ((au w).map .d),.box 71 ((aT x).map .d),.box 71 ((aT y).map .d)]) rfl (wf) ?_ ?_
     ·intro j f hf hj hJ C2 jU;have lh:(j:Int) < (x.faces.length:Int):=aa;have mW:=wi j aa;obtain⟨g,hg⟩:∃g,y.faces[j]? =some g:=⟨_,Xj (by rw[<-f3.out];exact hj)⟩;have F7:=G6 f.addrs g.addrs (a1z.out f (Xk hf)) (tB.out g (Xk hg));have Ah:f≠g->R=false:=fun h=>bE.out (fun e=>h (by subst e;rw[hf]at hg;exact XU.inj hg));replace Ah:=Xi Ah;replace hJ:=Xi hJ;by_cases i1:f.id=g.id
      ·have n1:(f.id==g.id)=true:=by simp[i1]
       by_cases i2:f.addrs=g.addrs
       ·rw[decide_eq_true i2]at F7;have hfg:f=g:=by cases f;cases g;simp at i1 i2;rw[i1,i2]
        have Di:=Xi (yH hf hg hJ.out hfg);replace hfg:=Xi hfg;replace i1:=Xi i1;replace i2:=Xi i2;have z1z:=@bne.eq_1 (List Int) _;have z2z:=@bne.eq_1 Int _;refine aq ?_<;>intros;exact jU _ _ Di.out (wf)
       ·rw[decide_eq_false i2]at F7;have hb:R=false:=Ah.out (fun e=>i2 (by rw[e]));rw[hb];replace hb:=Xi hb;replace i1:=Xi i1;replace i2:=Xi i2;have z1z:=@bne.eq_1 (List Int) _;have z2z:=@bne.eq_1 Int _;exact aY;all_goals exact aO.refl _
      ·have n1:(f.id==g.id)=false:=by simpa using i1
       have hb:R=false:=Ah.out (fun e=>i1 (by rw[e]));rw[hb];replace hb:=Xi hb;replace i1:=Xi i1;have z1z:=@bne.eq_1 (List Int) _;have z2z:=@bne.eq_1 Int _;exact aY;all_goals exact aO.refl _
     ·intro hJ C2;have SH:=yI f3.out hJ;have Jt:x=y:=by
       have h1:=f1.out;have h2:=f2.out;cases x;cases y;simp at h1 h2 SH;rw[h1,h2,SH]
      have mY:=Xi (yH hx hy hI.out Jt);replace hJ:=Xi hJ;replace SH:=Xi SH;replace Jt:=Xi Jt;refine aq ?_<;>intros;exact hC _ _ mY.out (wf)
    ·have hb:R=false:=bE.out (fun e=>c2 ⟨by rw[e],by rw[e],by rw[e]⟩);rw[hb];replace hb:=Xi hb;rw[Decidable.not_and_iff_or_not,Decidable.not_and_iff_or_not]at c2;rcases c2 with c2|c2|c2
     ·have g1:(x.id==y.id)=false:=by simpa using c2
      replace c2:=Xi c2;have z1z:=@bne.eq_1 (List Int) _;have z2z:=@bne.eq_1 Int _;exact aY;all_goals exact aO.refl _
     ·rw[decide_eq_false c2]at he;replace c2:=Xi c2;have z1z:=@bne.eq_1 (List Int) _;have z2z:=@bne.eq_1 Int _;exact aY;all_goals exact aO.refl _
     ·have g3:((x.faces.length:Int)==(y.faces.length:Int))=false:=aN;replace c2:=Xi c2;cases hd:decide (x.at_=y.at_);all_goals
       rw[hd]at he;replace hd:=Xi hd;have z1z:=@bne.eq_1 (List Int) _;have z2z:=@bne.eq_1 Int _;exact aY;all_goals exact aO.refl _
   ·intro hI C;have P3:=yI e3.out hI;have hb:R=true:=by
     rw[hR.out,decide_eq_true_eq];have h1:=e1.out;have h2:=oR.out;cases v;cases w;simp at h1 h2 P3;rw[h1,h2,P3]
    rw[hb];replace hb:=Xi hb;replace hI:=Xi hI;replace P3:=Xi P3;exact aY;all_goals exact aO.refl _
 ·have hb:R=false:=bQ.out (fun e=>c1 ⟨by rw[e],by rw[e],by rw[e]⟩);rw[hb];replace hb:=Xi hb;rw[Decidable.not_and_iff_or_not,Decidable.not_and_iff_or_not]at c1;rcases c1 with c1|c1|c1
  ·have g1:(v.id==w.id)=false:=by simpa using c1
   replace c1:=Xi c1;refine pj func110 ntmps110 results110 ?_;have z1z:=@bne.eq_1 (List Int) _;have z2z:=@bne.eq_1 Int _;exact aY;all_goals exact aO.refl _
  ·have g1:((v.ranges.length:Int)==(w.ranges.length:Int))=false:=aN;replace c1:=Xi c1;refine pj func110 ntmps110 results110 ?_;have z1z:=@bne.eq_1 (List Int) _;have z2z:=@bne.eq_1 Int _;exact aY;all_goals exact aO.refl _
  ·have g1:((v.subs.length:Int)==(w.subs.length:Int))=false:=aN;replace c1:=Xi c1;refine pj func110 ntmps110 results110 ?_;have z1z:=@bne.eq_1 (List Int) _;have z2z:=@bne.eq_1 Int _;exact aY;all_goals exact aO.refl _
def R8 (s:Sbn):Prop:=s.faces.length<=1000000000/\∀f∈s.faces,f.addrs.length<=1000000000
def I9 (v:Vpc):Prop:=v.ranges.length<=1000000000/\v.subs.length<=1000000000/\∀s∈v.subs,R8 s
def lf (n:Net):Prop:=n.vpcs.length<=1000000000/\n.links.length<=1000000000/\∀v∈n.vpcs,I9 v
theorem Hz [Flo](n:Net)(h:lf n):ai prog 42 [.agg (cN n),.agg (cN n)] (.v (.bool true)):=by
 obtain⟨h1,h2,h3⟩:=h;replace h3:=Xi h3;refine pj func42 ntmps42 results42 ?_;refine aq ?_<;>intros;refine bq ag am n.vpcs (fun _=>True) (fun k=>[(5,.d (.v (.int .i64 k))),(4,.d (.v (.bool false))),(3,.ptr 1 0),(2,.ptr 0 0)]) (fun _=>[.box 28 ((cN n).map .d),.box 28 ((cN n).map .d)]) trivial (wf) ?_ ?_
 ·intro k v hv hk _ C hC;have dF:(k:Int) < (n.vpcs.length:Int):=aa;have cX:=wi k aa;have hs:=h3.out v (Xk hv);have mQ:=Hy v v hs.1 hs.2.1 (fun s mQ=>hs.2.2 s mQ) (fun s mQ=>(hs.2.2 s mQ).2);rw[decide_eq_true rfl]at mQ;clear hs;refine aq ?_<;>intros;exact hC _ _ trivial (wf)
 ·intro _ C;refine aq ?_<;>intros;refine bq ag am n.links (fun _=>True) (fun k=>[(6,.d (.v (.int .i64 k))),(4,.d (.v (.bool false))),(3,.ptr 1 0),(2,.ptr 0 0)]) (fun _=>[.box 28 ((cN n).map .d),.box 28 ((cN n).map .d)]) trivial (wf) ?_ ?_
  ·intro k l hl hk _ C hC;have dF:(k:Int) < (n.links.length:Int):=aa;have cX:=wi k aa;refine aq ?_<;>intros;exact hC _ _ trivial (wf)
  ·intro _ C;exact aY;all_goals exact aO.refl _
theorem dE:lf Net.zero:=⟨XE _,XE _,fun v h=>by simp[Net.zero]at h⟩
theorem HA {v:Vpc}(h:VpcOK v):I9 v:=⟨by have:=h.n4;omega,by have:=h.n6;omega,fun s hs=>⟨by have:=(h.n8 s hs).1;omega,fun f hf=>by have:=(h.n8 s hs).2 f hf;omega⟩⟩
theorem eC {n:Net}(h:NetOK n):lf n:=⟨by have:=h.n6;omega,by have:=h.n12;omega,fun v hv=>HA (be (h.vp v hv))⟩
theorem Fn (n:Net)(id:Int):lf (jk n id).1:=by
 unfold jk;split
 ·exact dE
 ·rename_i hc;have bD:=gw.1 (by simpa using hc);split
  ·exact dE
  ·obtain⟨a,b,c⟩:=eC bD;refine⟨?_,b,fun v hv=>?_⟩
   ·show (dn _ _ n.vpcs).length<=_;rw[fK];have:=bD.n6;omega
   ·rcases ny.1 hv with rfl|hv
    ·exact⟨XE _,XE _,fun s hs=>by simp at hs⟩
    ·exact c v hv
theorem Fo (n:Net)(id:Int)(r:Rng):lf (iG n id r).1:=by
 unfold iG;split
 ·exact dE
 ·rename_i hc;have bD:=gw.1 (by simpa using hc);split
  ·exact dE
  ·split
   ·exact dE
   ·split
    ·exact dE
    ·rename_i i hi v hv hg;split
     ·rename_i hp;exact eC (gw.1 ((Br bD hv (by simpa using hg)).1.2 hp))
     ·exact dE
theorem Fp (n:Net)(a b:Int):lf (jY n a b).1:=by
 unfold jY;split
 ·exact dE
 ·rename_i hc;have bD:=gw.1 (by simpa using hc);split
  ·exact dE
  ·obtain⟨x,y,z⟩:=eC bD;refine⟨x,?_,z⟩;show (dn _ _ n.links).length<=_;rw[fK];have:=bD.n12;omega
theorem Fq (n:Net)(a b:Int):lf (ji n a b).1:=by
 unfold ji;split
 ·exact dE
 ·rename_i hc;have bD:=gw.1 (by simpa using hc);split
  ·exact dE
  ·obtain⟨x,y,z⟩:=eC bD;refine⟨x,?_,z⟩;rename_i i hi;show (n.links.eraseIdx i).length<=_;have:=List.length_eraseIdx_le n.links i;omega
def qo (s:Ste):Prop:=mf s.book/\lf s.net
theorem jm {b:Bok}(h:BookOK b):mf b:=⟨by have:=h.n8;omega,fun p hp=>by have:=h.l32 p hp;omega⟩
theorem th:qo .zero:=⟨bT,dE⟩
theorem Fr {b:Bok}(h:BookOK b)(vs:List Vpc)(c:Cmd):mf (jX b vs c).1:=by
 have hb:=jm h;unfold jX;repeat' split
 all_goals first|exact hb|exact Fa ..|exact Fb ..|exact Cw ..|exact Fc ..|exact vB ..|exact vC ..
theorem HB {n:Net}(h:NetOK n)(b:Bok)(c:Cmd):lf (sY b n c).1:=by
 have hn:=eC h;unfold sY;repeat' split
 all_goals first|exact hn|exact Fn ..|exact Fp ..|exact Fq ..
theorem ko {n:Net}(h:NetOK n){v:Vpc}(hv:oG v)(k:Nat):lf {n with vpcs:=n.vpcs.set k v}:=by
 obtain⟨a,b,c⟩:=eC h;refine⟨by show (n.vpcs.set k v).length<=_;rw[YS];exact a,b,fun w hw=>?_⟩;rcases Y4 hw with hw|rfl
 ·exact c w hw
 ·exact hv
theorem CG {b:Bok}{n:Net}(hb:BookOK b)(hn:NetOK n)(c:Cmd)(k:Nat)(v:Vpc):mf (mT b n c k v).1/\lf (mT b n c k v).2.1:=by
 have h1:=jm hb;have h2:=eC hn;unfold mT;repeat' split
 all_goals refine⟨?_,?_⟩
 all_goals first|exact h1|exact h2|exact vB ..|exact vC ..|exact Fo ..|exact ko hn (Fd ..) _|exact ko hn (Hl ..) _|exact ko hn (Cy ..) _|exact ko hn (Fe ..) _|exact ko hn (Ff ..) _|exact ko hn (zS ..) _
theorem CH {b:Bok}{n:Net}(hb:BookOK b)(hn:NetOK n)(c:Cmd):mf (gL b n c).1/\lf (gL b n c).2.1:=by
 unfold gL;split
 ·exact⟨jm hb,eC hn⟩
 ·split
  ·exact CG hb hn ..
  ·exact⟨jm hb,eC hn⟩
theorem Bu (s:Ste)(c:Cmd):qo (qL s c).1:=by
 unfold qL;by_cases h:fj s=0
 ·obtain⟨qq,mU⟩:=nL h;have hb:=db qq;have hn:=gw.1 mU;rw[af (by simpa using h)];split
  ·exact⟨jm hb,eC hn⟩
  ·unfold zR;split
   ·exact⟨Fr hb ..,eC hn⟩
   ·split
    ·exact⟨jm hb,HB hn ..⟩
    ·split
     ·exact CH hb hn c
     ·exact⟨jm hb,eC hn⟩
 ·rw[ah h];exact th
theorem qo.hz {s:Ste}(h:qo s):∀p∈s.book.pools,p.leases.length<=3518437208882:=fun p hp=>by have:=h.1.2 p hp;omega
def nN (s:Ste)(l:List Cmd):Ste:=l.foldl (fun s c=>(qL s c).1) s
def pR:Ste->List Cmd->List Ans
 |_,[]=>[]
 |s,c::l=>(qL s c).2.1::pR (qL s c).1 l
def Fs (l:List Cmd):Ste × List Ans × Int:=if 200 < l.length then (.zero,[],2)else (nN .zero l,pR .zero l,0)
theorem yJ (s:Ste)(l:List Cmd)(c:Cmd):nN s (l++[c])=(qL (nN s l) c).1:=by
 unfold nN;rw[Zo];rfl
theorem yK:∀(l:List Cmd) (s:Ste) (c:Cmd),pR s (l++[c])=pR s l++[(qL (nN s l) c).2.1]
 |[],_,_=>rfl
 |d::l,s,c=>by
  show _::pR _ (l++[c])=_;rw[yK l];rfl
theorem Bv:∀(l:List Cmd) (s:Ste),(pR s l).length=l.length
 |[],_=>rfl
 |_::l,s=>by show (pR _ l).length+1=_;rw[Bv l];rfl
theorem Ft (l:List Cmd):qo (nN .zero l):=by
 rcases List.eq_nil_or_concat l with rfl|⟨l,c,rfl⟩
 ·exact th
 ·rw[List.concat_eq_append,yJ];exact Bu ..
abbrev Lf:=List Int × Int
theorem Ja:∀{m:List Lf}{k:List Int}{v:Int},(∀x∈m,x.1≠k)->nd m k v=m++[(k,v)]
 |[],k,v,_=>rfl
 |(k',x)::m,k,v,h=>by
  unfold nd;rw[af (h _ (P' ..)),Ja fun y hy=>h y (YP _ hy)];rfl
def WH (m:List Lf)(x:Lf):List Lf:=nd m x.1 x.2
theorem Jb:∀(l m:List Lf),(m++l).Pairwise (fun a b=>a.1≠b.1)->l.foldl WH m=m++l
 |[],m,_=>by simp
 |x::l,m,h=>by
  rw[YK];have h1:=(YQ.1 h).2.2;have e:WH m x=m++[x]:=Ja fun y hy=>h1 y hy x (P' ..);rw[e,Jb l (m++[x]) (by simpa using h)];simp
def HC (p:Pol):List Lf:=(p.leases.filter fun l=>l.kind==1).map fun l=>([l.at_.at_,l.at_.len,p.id],l.owner)
def tj (b:Bok):List Lf:=b.pools.flatMap HC
theorem OP (p:Pol)(m:List Lf):Nj m p=(HC p).foldl WH m:=by
 unfold Nj HC;generalize p.leases=l;induction l generalizing m with
 |nil=>rfl
 |cons a l ih=>
  rw[YK,ih];unfold LV;by_cases h:a.kind=1
  ·rw[ah h,List.filter_cons_of_pos (by simpa using h)];rfl
  ·rw[af h,List.filter_cons_of_neg (by simpa using h)]
theorem OQ (b:Bok):vZ b=(tj b).foldl WH []:=by
 unfold vZ tj;have key:∀(l:List Pol) (m:List Lf),l.foldl Nj m=(l.flatMap HC).foldl WH m:=by
  intro l;induction l with
  |nil=>intro m;rfl
  |cons p l ih=>intro m;rw[YK,ih,List.flatMap_cons,Zo,OP]
 exact key _ _
theorem kq {b:Bok}(h:BookOK b):(tj b).Pairwise fun x y=>x.1≠y.1:=by
 unfold tj;rw[List.pairwise_flatMap];constructor
 ·intro p hp;have hl:=ma (h.mem p hp).2.1;unfold HC;rw[Y3];exact(hl.filter _).imp fun {a b} gQ e=>by simp at e;omega
 ·refine h.rise.imp fun {p q} hpq x hx y hy e=>?_;unfold HC at hx hy;obtain⟨l,-,rfl⟩:=XF.1 hx;obtain⟨l',-,rfl⟩:=XF.1 hy;simp at e;omega
theorem CJ {b:Bok}(h:BookOK b):vZ b=tj b:=by
 rw[OQ,Jb _ [] (by simpa using kq h)];rfl
theorem qp:∀{l:List Lf},l.Pairwise (fun x y=>x.1≠y.1)->∀{k:List Int}{o:Int},lB l k=some o↔(k,o)∈l
 |[],_,k,o=>by simp[lB]
 |(k',x)::l,h,k,o=>by
  have h':=YA.1 h;unfold lB;by_cases e:k'=k
  ·subst e;rw[ah rfl];constructor
   ·intro hx;cases hx;exact P' ..
   ·intro hx;rcases XY.1 hx with hx|hx
    ·cases hx;rfl
    ·exact absurd rfl (h'.1 (k',o) hx)
  ·rw[af e,qp h'.2];constructor
   ·exact fun hx=>YP _ hx
   ·intro hx;rcases XY.1 hx with hx|hx
    ·cases hx;exact absurd rfl e
    ·exact hx
theorem rL {b:Bok}{k:List Int}{o:Int}:(k,o)∈tj b↔∃p∈b.pools,∃l∈p.leases,l.kind=1/\k=[l.at_.at_,l.at_.len,p.id]/\o=l.owner:=by
 unfold tj HC;simp only[Z3,XF,Zv,Prod.mk.injEq,beq_iff_eq];constructor
 ·rintro⟨p,hp,l,⟨hl,hk⟩,rfl,rfl⟩;exact⟨p,hp,l,hl,hk,rfl,rfl⟩
 ·rintro⟨p,hp,l,hl,hk,rfl,rfl⟩;exact⟨p,hp,l,⟨hl,hk⟩,rfl,rfl⟩
theorem OR {α:Type}[DecidableEq α]{l m:List α}(hl:l.Nodup)(hm:m.Nodup)(hs:∀x∈l,x∈m):l.length<=m.length/\(l.length=m.length↔∀x∈m,x∈l):=by
 have h1:=hl.length_le_of_subset hs;refine⟨h1,fun h x hx=>?_,fun h=>Nat.le_antisymm h1 (hm.length_le_of_subset h)⟩;refine Classical.byContradiction fun hn=>?_;have h2:(x::l).Nodup:=List.nodup_cons.2 ⟨hn,hl⟩;have h3:=h2.length_le_of_subset (fun y hy=>by
  rcases XY.1 hy with rfl|hy
  ·exact hx
  ·exact hs y hy:(x::l) ⊆ m)
 simp at h3;omega
def yL (vs:List Vpc):List (List Int):=vs.flatMap fun v=>v.ranges.map fun r=>[r.at_.at_,r.at_.len,r.pool]
theorem Lg (vs:List Vpc):(yL vs).length=pA vs:=by
 unfold yL pA;rw[List.length_flatMap];simp
theorem yM {E:List Lf}{id:Int}{r:Rng}(hid:id≠0):Cg E id r=true↔lB E [r.at_.at_,r.at_.len,r.pool]=some id:=by
 unfold Cg;cases h:lB E [r.at_.at_,r.at_.len,r.pool]with
 |none=>simp;omega
 |some x=>simp
theorem Fu {E:List Lf}{vs:List Vpc}(hr:vs.Pairwise fun a b=>a.id < b.id)(hv:∀v∈vs,v.id≠0/\v.ranges.Pairwise fun a b=>a.at_.at_ < b.at_.at_)(bD:lU E vs=true):(yL vs).Nodup:=by
 unfold yL List.Nodup;rw[List.pairwise_flatMap];have kV:∀v∈vs,∀r∈v.ranges,lB E [r.at_.at_,r.at_.len,r.pool]=some v.id:=fun v tG r wG=>
  (yM (hv v tG).1).1 (XD.1 (XD.1 bD v tG) r wG)
 constructor
 ·intro v tG;rw[Y3];exact(hv v tG).2.imp fun {a b} gQ e=>by simp at e;omega
 ·rw[XH]at hr ⊢;intro i j hi hj hij x hx y hy e;obtain⟨r,wG,rfl⟩:=XF.1 hx;obtain⟨r',a1A,rfl⟩:=XF.1 hy;have h1:=kV _ (Yl hi) r wG;have h2:=kV _ (Yl hj) r' a1A;rw[e,h2]at h1;have:=hr i j hi hj hij;simp at h1;omega
theorem Lh {E:List Lf}{vs:List Vpc}(hE:E.Pairwise fun x y=>x.1≠y.1)(hr:vs.Pairwise fun a b=>a.id < b.id)(hv:∀v∈vs,v.id≠0/\v.ranges.Pairwise fun a b=>a.at_.at_ < b.at_.at_)(bD:lU E vs=true):
 pA vs=(E.countP fun kv=>ig vs kv.2)↔∀kv∈E,ig vs kv.2=true->kv.1∈yL vs:=by
 have hA:=Fu hr hv bD;have hB:((E.filter fun kv=>ig vs kv.2).map (·.1)).Nodup:=by
  unfold List.Nodup;rw[Y3];exact(hE.filter _)
 have hs:∀x∈yL vs,x∈(E.filter fun kv=>ig vs kv.2).map (·.1):=by
  intro x hx;obtain⟨v,tG,hx⟩:=Z3.1 hx;obtain⟨r,wG,rfl⟩:=XF.1 hx;have h1:=(yM (hv v tG).1).1 (XD.1 (XD.1 bD v tG) r wG);have h2:=(qp hE).1 h1;exact XF.2 ⟨_,Zv.2 ⟨h2,XR.2 ⟨v,tG,by simp⟩⟩,rfl⟩
 have h:=(OR hA hB hs).2;rw[Lg,Xs,<-List.countP_eq_length_filter]at h;rw[h];constructor
 ·intro h kv CV hh;exact h _ (XF.2 ⟨kv,Zv.2 ⟨CV,hh⟩,rfl⟩)
 ·intro h x hx;obtain⟨kv,CV,rfl⟩:=XF.1 hx;obtain⟨h1,h2⟩:=Zv.1 CV;exact h kv h1 h2
theorem Li {b:Bok}(h:BookOK b){p q:Pol}(hp:p∈b.pools)(hq:q∈b.pools)(e:p.id=q.id):p=q:=by
 obtain⟨i,hi,rfl⟩:=X7 hp;obtain⟨j,hj,rfl⟩:=X7 hq;have hr:=XH.1 h.rise;rcases Y9 i j with h1|h1|h1
 ·have:=hr i j hi hj h1;omega
 ·subst h1;rfl
 ·have:=hr j i hj hi h1;omega
theorem OS {b:Bok}(h:BookOK b)(pid:Int)(at_:Pfx):lB (vZ b) [at_.at_,at_.len,pid]=(im b pid at_).map (·.owner):=by
 rw[CJ h];unfold im bK;cases hf:b.pools.find? fun p=>p.id==pid with
 |none=>
  simp only[Zf];cases hk:lB (tj b) [at_.at_,at_.len,pid]with
  |none=>rfl
  |some o=>
   obtain⟨p,hp,l,hl,qs,he,-⟩:=rL.1 ((qp (kq h)).1 hk);have:=Yr.1 hf p hp;simp at he this;omega
 |some p=>
  have p5:=YC hf;have zf:p.id=pid:=by have:=Zg hf;simpa using this
  simp only;cases hl:p.leases.find? (jW at_)with
  |none=>
   simp only[Zf];cases hk:lB (tj b) [at_.at_,at_.len,pid]with
   |none=>rfl
   |some o=>
    obtain⟨q,hq,l,mX,qs,he,-⟩:=rL.1 ((qp (kq h)).1 hk);simp at he;obtain rfl:=Li h p5 hq aa;have:=Yr.1 hl l mX;unfold jW at this;exfalso;apply this;have:l.at_=at_:=by
     have h1:=he.1;have h2:=he.2.1;cases oJ:l.at_ with
     |mk x y=>
      cases at_ with
      |mk x' y'=>rw[oJ]at h1 h2;simp only at h1 h2;rw[h1,h2]
    simp[qs,this]
  |some l=>
   simp only[Yb];have mX:=YC hl;have hg:=Zg hl;unfold jW at hg;rw[Xv]at hg;have g1:l.kind=1:=by simpa using hg.1
   have g2:l.at_=at_:=of_decide_eq_true hg.2;rw[qp (kq h)];exact rL.2 ⟨p,p5,l,mX,g1,by rw[g2,zf],rfl⟩
def LW (b:Bok)(id:Int)(r:Rng):Bool:=match im b r.pool r.at_ with|some l=>l.owner==id|none=>false
def Lj (vs:List Vpc)(pid:Int)(l:Lse):Bool:=!(l.kind==1)||(match vs.find? (·.id==l.owner)with|some v=>v.ranges.any fun r=>decide (r=(⟨l.at_,pid⟩:Rng))|none=>true)
def OT (s:Ste):Bool:=s.net.vpcs.all fun v=>v.ranges.all (LW s.book v.id)
def HD (s:Ste):Bool:=s.book.pools.all fun p=>p.leases.all (Lj s.net.vpcs p.id)
theorem R9 {s:Ste}(h:BookOK s.book)(hv:∀v∈s.net.vpcs,v.id≠0):lU (vZ s.book) s.net.vpcs=OT s:=by
 unfold lU OT;have key:∀v∈s.net.vpcs,∀r∈v.ranges,Cg (vZ s.book) v.id r=LW s.book v.id r:=by
  intro v tG r _;unfold Cg LW;rw[OS h];cases im s.book r.pool r.at_ with
  |none=>have:=hv v tG;simp;omega
  |some l=>simp
 rw[Yi,XD,XD];refine forall_congr' fun v=>forall_congr' fun tG=>?_;rw[XD,XD];exact forall_congr' fun r=>forall_congr' fun wG=>by rw[key v tG r wG]
theorem OU {vs:List Vpc}(hr:vs.Pairwise fun a b=>a.id < b.id){v w:Vpc}(hv:v∈vs)(hw:w∈vs)(e:v.id=w.id):v=w:=by
 obtain⟨i,hi,rfl⟩:=X7 hv;obtain⟨j,hj,rfl⟩:=X7 hw;have hr:=XH.1 hr;rcases Y9 i j with h1|h1|h1
 ·have:=hr i j hi hj h1;omega
 ·subst h1;rfl
 ·have:=hr j i hj hi h1;omega
theorem Sa {s:Ste}(h:BookOK s.book)(hr:s.net.vpcs.Pairwise fun a b=>a.id < b.id)(hv:∀v∈s.net.vpcs,v.id≠0)(bD:lU (vZ s.book) s.net.vpcs=true):
 (∀kv∈vZ s.book,ig s.net.vpcs kv.2=true->kv.1∈yL s.net.vpcs)↔HD s=true:=by
 rw[CJ h]at bD ⊢;unfold HD;simp only[XD];constructor
 ·intro hk p hp l hl;unfold Lj;by_cases qs:l.kind=1
  ·have hm:=rL.2 ⟨p,hp,l,hl,qs,rfl,rfl⟩;cases hf:s.net.vpcs.find? (·.id==l.owner)with
   |none=>simp
   |some v=>
    have tG:=YC hf;have hvi:v.id=l.owner:=by have:=Zg hf;simpa using this
    have hka:=hk _ hm (XR.2 ⟨v,tG,by simpa using hvi⟩);obtain⟨w,CZ,hx⟩:=Z3.1 hka;obtain⟨r,wG,he⟩:=XF.1 hx;have h1:=(yM (hv w CZ)).1 (XD.1 (XD.1 bD w CZ) r wG);have h2:=(qp (kq h)).2 hm;simp only at he;rw[he,h2]at h1;have hwv:w=v:=OU hr CZ tG (by simp at h1;omega);subst hwv;have:r=⟨l.at_,p.id⟩:=by
     cases r with
     |mk a pl=>
      cases a;cases oJ:l.at_;simp_all
    simp only[qs,beq_self_eq_true,Z7,ZY];exact XR.2 ⟨r,wG,by simpa using this⟩
  ·simp[qs]
 ·rintro hk ⟨k,o⟩ CV hh;obtain⟨p,hp,l,hl,qs,rfl,rfl⟩:=rL.1 CV;have h1:=hk p hp l hl;unfold Lj at h1;simp only[qs,beq_self_eq_true,Z7,ZY]at h1;obtain⟨v,tG,hvi⟩:=XR.1 hh;cases hf:s.net.vpcs.find? (·.id==l.owner)with
  |none=>exact absurd hvi (by simpa using Yr.1 hf v tG)
  |some w=>
   rw[hf]at h1;obtain⟨r,wG,he⟩:=XR.1 h1;have he:r=⟨l.at_,p.id⟩:=by simpa using he
   exact Z3.2 ⟨w,YC hf,XF.2 ⟨r,wG,by rw[he]⟩⟩
theorem Lk (s:Ste):fj s=if bn s.book≠0 then bn s.book else if cJ s.net≠0 then cJ s.net else if (OT s&&HD s)=true then 0 else 1:=by
 unfold fj;by_cases h1:bn s.book=0
 ·have n1:¬bn s.book≠0:=fun h=>h h1;by_cases h2:cJ s.net=0
  ·have n2:¬cJ s.net≠0:=fun h=>h h2;rw[af n1,af n1,af n2,af n2];have hb:=db h1;have hn:=gw.1 h2;have hv:∀v∈s.net.vpcs,v.id≠0:=fun v tG e=>by
    have:=(be (hn.vp v tG)).id;unfold cD at this;rw[e]at this;simp at this
   have VQ:∀v∈s.net.vpcs,v.id≠0/\v.ranges.Pairwise fun a b=>a.at_.at_ < b.at_.at_:=fun v tG=>⟨hv v tG,(be (hn.vp v tG)).rr⟩;rw[<-R9 hb hv];cases bD:lU (vZ s.book) s.net.vpcs with
   |false=>simp
   |true=>
    have hc:=Lh (E:=vZ s.book) (by rw[CJ hb];exact kq hb) hn.rise VQ bD;rw[Sa hb hn.rise hv bD]at hc;simp only[Yp,decide_eq_true_eq];by_cases h3:HD s=true
    ·rw[ah (hc.2 h3),ah h3]
    ·rw[af (fun e=>h3 (hc.1 e)),af h3]
  ·rw[af n1,af n1,ah h2,ah h2]
 ·rw[ah h1,ah h1]
theorem a2F {p:Prop}(h:p:=by
 intro hI C;rw[Xq]at hI;have hr:R=false:=by rw[hR.out,hI]
 rw[hr];replace hI:=Xi hI;exact aY):p:=h
theorem tm {α:Type}{p:α->Bool}{l:List α}{k:Nat}{x:α}(hx:l[k]? =some x)(h:(l.take k).any p=false)(hp:p x=false):(l.take (k+1)).any p=false:=by
 rw[aj hx,List.any_append,h];simpa using hp
theorem wD {α:Type}{p:α->Bool}{l:List α}{k:Nat}{x:α}(hx:l[k]? =some x)(hp:p x=true):l.any p=true:=XR.2 ⟨x,Xk hx,hp⟩
theorem yN [Flo](v:Vpc)(r:Rng)(hl:v.ranges.length<=1000000000):ai prog 40 [.agg (au v),.agg (bp r)] (.v (.bool (v.ranges.any fun x=>decide (x=r)))):=by
 obtain⟨R,hR⟩:∃R,R=v.ranges.any fun x=>decide (x=r):=⟨_,rfl⟩;rw[<-hR];replace hR:=Xi hR;refine pj func40 ntmps40 results40 ?_;refine aq ?_;refine bq ag am v.ranges (fun k=>((v.ranges.take k).any fun x=>decide (x=r))=false) (fun k=>[(5,.d (.v (.int .i64 k))),(4,.d (.v (.bool false))),(3,.ptr 1 0),(2,.ptr 0 0)]) (fun _=>[.box 55 ((au v).map .d),.box 58 ((bp r).map .d)]) rfl wf ?_ ?_
 ·intro k x hx hk hI C hC;have dF:(k:Int) < (v.ranges.length:Int):=aa;have cX:=wi k aa;have he:=ye x r;replace hI:=Xi hI;cases hp:decide (x=r)with
  |true=>
   rw[hp]at he;have hr:R=true:=by rw[hR.out];exact wD hx hp
   rw[hr];replace hp:=Xi hp;exact aY
  |false=>
   rw[hp]at he;have mY:=Xi (tm hx hI.out hp);replace hp:=Xi hp;refine aq ?_;exact hC _ _ mY.out wf
 ·exact a2F
theorem Ll [Flo](n:Net)(r:Rng)(hl:n.vpcs.length<=1000000000)(hv:∀v∈n.vpcs,v.ranges.length<=1000000000):ai prog 164 [.agg (cN n),.agg (bp r)] (.v (.bool (n.vpcs.any fun v=>v.ranges.any fun x=>decide (x=r)))):=by
 obtain⟨R,hR⟩:∃R,R=n.vpcs.any fun v=>v.ranges.any fun x=>decide (x=r):=⟨_,rfl⟩;rw[<-hR];replace hR:=Xi hR;replace hv:=Xi hv;refine pj func164 ntmps164 results164 ?_;refine aq ?_;refine bq ag am n.vpcs (fun k=>((n.vpcs.take k).any fun v=>v.ranges.any fun x=>decide (x=r))=false) (fun k=>[(5,.d (.v (.int .i64 k))),(4,.d (.v (.bool false))),(3,.ptr 1 0),(2,.ptr 0 0)]) (fun _=>[.box 28 ((cN n).map .d),.box 58 ((bp r).map .d)]) rfl wf ?_ ?_
 ·intro k v hx hk hI C hC;have dF:(k:Int) < (n.vpcs.length:Int):=aa;have cX:=wi k aa;have hh:=yN v r (hv.out v (Xk hx));replace hI:=Xi hI;cases hp:v.ranges.any fun x=>decide (x=r)with
  |true=>
   rw[hp]at hh;have hr:R=true:=by rw[hR.out];exact wD hx hp
   rw[hr];replace hp:=Xi hp;exact aY
  |false=>
   rw[hp]at hh;have mY:=Xi (tm hx hI.out hp);replace hp:=Xi hp;refine aq ?_;exact hC _ _ mY.out wf
 ·exact a2F
def yO (b:Bok)(id:Int):Bool:=b.pools.any fun p=>p.leases.any fun l=>l.kind==1&&l.owner==id
theorem Sb [Flo](b:Bok)(id:Int)(hl:b.pools.length<=1000000000)(hv:∀p∈b.pools,p.leases.length<=1000000000):ai prog 77 [.agg (bj b),.v (.int .i64 id)] (.v (.bool (yO b id))):=by
 unfold yO;obtain⟨R,hR⟩:∃R,R=b.pools.any fun p=>p.leases.any fun l=>l.kind==1&&l.owner==id:=⟨_,rfl⟩;rw[<-hR];replace hR:=Xi hR;replace hv:=Xi hv;refine pj func77 ntmps77 results77 ?_;refine aq ?_;refine bq ag am b.pools (fun k=>((b.pools.take k).any fun p=>p.leases.any fun l=>l.kind==1&&l.owner==id)=false) (fun k=>[(5,.d (.v (.int .i64 k))),(4,.d (.v (.bool false))),(2,.ptr 0 0),(1,.d (.v (.int .i64 id)))]) (fun _=>[.box 24 ((bj b).map .d)]) rfl wf ?_ ?_
 ·intro k p hx hk hI C hC;have dF:(k:Int) < (b.pools.length:Int):=aa;have cX:=wi k aa;have gz:=hv.out p (Xk hx);replace hI:=Xi hI;refine aq ?_;refine bq ag am p.leases (fun j=>((p.leases.take j).any fun l=>l.kind==1&&l.owner==id)=false) (fun j=>[(6,.d (.v (.int .i64 j))),(5,.d (.v (.int .i64 k))),(4,.d (.v (.bool false))),(2,.ptr 0 0),(1,.d (.v (.int .i64 id)))]) (fun _=>[.box 24 ((bj b).map .d)]) rfl wf ?_ ?_
  ·intro j l hy hj hJ C2 jU;have lh:(j:Int) < (p.leases.length:Int):=aa;have mW:=wi j aa;replace hJ:=Xi hJ;cases hp:(l.kind==1&&l.owner==id)with
   |true=>
    have hr:R=true:=by rw[hR.out];exact wD hx (wD hy hp)
    rw[hr];rw[Xv]at hp;obtain⟨p1,p2⟩:=hp;exact aY
   |false=>
    have Di:=Xi (tm hy hJ.out hp);cases p1:l.kind==1 with
    |false=>
     replace hp:=Xi hp;refine aq ?_;exact jU _ _ Di.out wf
    |true=>
     rw[p1,Yp]at hp;refine aq ?_;exact jU _ _ Di.out wf
  ·intro hJ C2;rw[Xq]at hJ;have mY:=Xi (tm hx hI.out hJ);replace hJ:=Xi hJ;refine aq ?_;exact hC _ _ mY.out wf
 ·exact a2F
theorem OV {α:Type}(p:α->Bool)(l:List α):(cq p l < 0/\l.find? p=none)\/∃(k:Nat) (x:α),cq p l=k/\l[k]? =some x/\l.find? p=some x:=by
 unfold cq;cases h:l.findIdx? p with
 |none=>
  left;exact⟨by simp,Yr.2 fun x hx=>by simpa using Yn.1 h x hx⟩
 |some k=>
  right;obtain⟨hk,h1,h2⟩:=XK.1 h;refine⟨k,_,rfl,Xj hk,?_⟩;rw[List.find?_eq_some_iff_getElem];exact⟨h1,k,hk,rfl,fun j hj=>by simpa using h2 j hj⟩
theorem pS [Flo](s:Ste)(hz:∀p∈s.book.pools,p.leases.length<=3518437208882)(mq:rK s.net):ai prog 12 [.agg (bJ s)] (.v (.int .i64 (fj s))):=by
 have hb:=il s.book hz;have hn:=kn s.net mq;rw[Lk];by_cases h1:bn s.book=0
 ·rw[af (by simpa using h1)];rw[h1]at hb;by_cases h2:cJ s.net=0
  ·rw[af (by simpa using h2)];rw[h2]at hn;have tL:=db h1;have bQ:=gw.1 h2;have h8:=tL.n8;have eP:=Xi tL.l32;have n6:=bQ.n6;have Vn:∀v∈s.net.vpcs,v.ranges.length<=4:=fun v hv=>(be (bQ.vp v hv)).n4;replace Vn:=Xi Vn;obtain⟨R,hR⟩:∃R,R=if (OT s&&HD s)=true then (0:Int)else 1:=⟨_,rfl⟩;rw[<-hR];replace hR:=Xi hR;clear h1 h2 tL bQ hz mq;refine pj func12 ntmps12 results12 ?_;refine aq ?_;refine bq ag am s.net.vpcs (fun k=>((s.net.vpcs.take k).all fun v=>v.ranges.all (LW s.book v.id))=true) (fun k=>[(5,.d (.v (.int .i64 k))),(2,.d (.v (.int .i64 0))),(1,.ptr 0 0)]) (fun _=>[.box 30 ((bJ s).map .d)]) rfl wf ?_ ?_
   ·intro k v hx hk hI C hC;have dF:(k:Int) < (s.net.vpcs.length:Int):=aa;have cX:=wi k aa;have h4:=Xi (Vn.out v (Xk hx));have nS:=Xi hx;replace hI:=Xi hI;refine aq ?_;clear hx;refine bq ag am v.ranges (fun j=>((v.ranges.take j).all (LW s.book v.id))=true) (fun j=>[(7,.d (.v (.int .i64 j))),(6,.ptr 1 0),(5,.d (.v (.int .i64 k))),(2,.d (.v (.int .i64 0))),(1,.ptr 0 0)]) (fun _=>[.box 30 ((bJ s).map .d),.box 55 ((au v).map .d)]) rfl wf ?_ ?_
    ·intro j r hy hj hJ C2 jU;have lh:(j:Int) < (v.ranges.length:Int):=aa;have mW:IntKind.i64.wrap ((j:Int)+1)=((j+1:Nat):Int):=by have:=h4.out;rw[IntKind.wrap_i64];omega
     have oJ:=Bk s.book r.pool r.at_ aa (fun q hq=>by have:=eP.out q hq;omega);have P5:=Xi hy;replace hJ:=Xi hJ;have bE:LW s.book v.id r=false->R=1:=fun e=>by
      rw[hR.out,af];intro h;rw[Xv]at h;have:=XD.1 (XD.1 h.1 v (Xk nS.out)) r (Xk P5.out);rw[e]at this;cases this
     have iJ:LW s.book v.id r=true->((v.ranges.take (j+1)).all (LW s.book v.id))=true:=fun e=>by
      rw[aj P5.out,ZR,hJ.out];simpa using e
     cases uN:im s.book r.pool r.at_ with
     |none=>
      rw[uN]at oJ;have hr:=bE (by unfold LW;rw[uN]);rw[hr];clear bE iJ hr;simp only[pL]at oJ;replace uN:=Xi uN;exact aY
     |some l=>
      rw[uN]at oJ;simp only[pL]at oJ;cases ho:l.owner==v.id with
      |false=>
       have hr:=bE (by unfold LW;rw[uN];exact ho);rw[hr];have e1:(l.owner !=v.id)=true:=by simpa using ho
       clear bE iJ hr;replace uN:=Xi uN;exact aY
      |true=>
       have hg:=Xi (iJ (by unfold LW;rw[uN];exact ho));have e1:(l.owner !=v.id)=false:=by simpa using ho
       clear bE iJ;replace uN:=Xi uN;refine aq ?_;exact jU _ _ hg.out wf
    ·intro hJ C2;rw[Xq]at hJ;have mY:((s.net.vpcs.take (k+1)).all fun v=>v.ranges.all (LW s.book v.id))=true:=by
      rw[aj nS.out,ZR,hI.out];simpa using hJ
     replace mY:=Xi mY;replace hJ:=Xi hJ;refine aq ?_;exact hC _ _ mY.out wf
   ·intro hI C;rw[Xq]at hI;have hA:OT s=true:=hI;have aR:R=if HD s=true then 0 else 1:=by rw[hR.out,hA,Yp]
    replace hI:=Xi hI;replace aR:=Xi aR;replace hA:=Xi hA;refine aq ?_;refine bq ag am s.book.pools (fun k=>((s.book.pools.take k).all fun p=>p.leases.all (Lj s.net.vpcs p.id))=true) (fun k=>[(10,.d (.v (.int .i64 k))),(2,.d (.v (.int .i64 0))),(1,.ptr 0 0)]) (fun _=>[.box 30 ((bJ s).map .d)]) rfl wf ?_ ?_
    ·intro k p hx hk hI C hC;have dF:(k:Int) < (s.book.pools.length:Int):=aa;have cX:=wi k aa;have h4:=Xi (eP.out p (Xk hx));have nS:=Xi hx;replace hI:=Xi hI;refine aq ?_;clear hx;refine bq ag am p.leases (fun j=>((p.leases.take j).all (Lj s.net.vpcs p.id))=true) (fun j=>[(12,.d (.v (.int .i64 j))),(11,.ptr 1 0),(10,.d (.v (.int .i64 k))),(2,.d (.v (.int .i64 0))),(1,.ptr 0 0)]) (fun _=>[.box 30 ((bJ s).map .d),.box 62 ((al p).map .d)]) rfl wf ?_ ?_
     ·intro j l hy hj hJ C2 jU;have lh:(j:Int) < (p.leases.length:Int):=aa;have mW:IntKind.i64.wrap ((j:Int)+1)=((j+1:Nat):Int):=by have:=h4.out;rw[IntKind.wrap_i64];omega
      have S1:=iB s.net l.owner aa;have P5:=Xi hy;replace hJ:=Xi hJ;have bE:Lj s.net.vpcs p.id l=false->R=1:=fun e=>by
       rw[aR.out,af];intro h;have:=XD.1 (XD.1 h p (Xk nS.out)) l (Xk P5.out);rw[e]at this;cases this
      have iJ:Lj s.net.vpcs p.id l=true->((p.leases.take (j+1)).all (Lj s.net.vpcs p.id))=true:=fun e=>by
       rw[aj P5.out,ZR,hJ.out];simpa using e
      cases hkd:l.kind==1 with
      |false=>
       have hg:=Xi (iJ (by unfold Lj;rw[hkd];rfl));clear bE iJ S1;refine aq ?_;exact jU _ _ hg.out wf
      |true=>
       rcases OV (fun v:Vpc=>v.id==l.owner) s.net.vpcs with⟨h0,hf⟩|⟨i,v,hi,hv,hf⟩
       ·have hg:=Xi (iJ (by unfold Lj;rw[hkd,hf];rfl));have e1:decide (cq (fun v:Vpc=>v.id==l.owner) s.net.vpcs>=0)=false:=aN;generalize cq (fun v:Vpc=>v.id==l.owner) s.net.vpcs=ix at*;replace h0:=Xi h0;replace hf:=Xi hf;clear bE iJ;refine aq ?_;exact jU _ _ hg.out wf
       ·rw[hi]at S1;have hil:=(Xm.1 hv).1;have SP:(i:Int) < (s.net.vpcs.length:Int):=aa;have mC:decide ((i:Int)>=0)=true:=ak;have hh:=yN v ⟨l.at_,p.id⟩ (by have:=Vn.out v (Xk hv);omega);replace hi:=Xi hi;cases hb:v.ranges.any fun x=>decide (x=(⟨l.at_,p.id⟩:Rng))with
        |true=>
         have hg:=Xi (iJ (by unfold Lj;rw[hkd,hf];exact hb));rw[hb]at hh;replace hb:=Xi hb;replace hf:=Xi hf;clear bE iJ;refine aq ?_;exact jU _ _ hg.out wf
        |false=>
         have hr:=bE (by unfold Lj;rw[hkd,hf];exact hb);rw[hb]at hh;replace hb:=Xi hb;replace hf:=Xi hf;clear bE iJ;rw[hr];exact aY
     ·intro hJ C2;rw[Xq]at hJ;have mY:((s.book.pools.take (k+1)).all fun p=>p.leases.all (Lj s.net.vpcs p.id))=true:=by
       rw[aj nS.out,ZR,hI.out];simpa using hJ
      replace mY:=Xi mY;replace hJ:=Xi hJ;refine aq ?_;exact hC _ _ mY.out wf
    ·intro hI C;rw[Xq]at hI;have hr:R=0:=by rw[aR.out,ah (show HD s=true from hI)]
     rw[hr];replace hI:=Xi hI;exact aY
  ·have e2:(cJ s.net !=0)=true:=by simpa using h2
   rw[ah h2];generalize cJ s.net=X at*;replace h1:=Xi h1;replace h2:=Xi h2;refine pj func12 ntmps12 results12 ?_;exact aY
 ·have e2:(bn s.book !=0)=true:=by simpa using h1
  rw[ah h1];generalize bn s.book=X at*;replace h1:=Xi h1;refine pj func12 ntmps12 results12 ?_;exact aY
theorem Or {p:Prop}(h:p:=by
 obtain⟨s,hq⟩:∃s,pre[k]? =some s:=⟨_,Xj mo⟩;have hs:v.subs[k]? =some s:=by rw[hL.out,XW mo];exact hq
 have jb:=h8.out s (Xk hs);replace hs:=Xi hs;replace hq:=Xi hq;have mz:=hs.out;refine aq ?_<;>intros;refine bq ag am s.faces (fun _=>True) (fun j=>[(6,.d (.v (.int .i64 j))),(5,.ptr 5 0),(4,.d (.v (.int .i64 k))),(3,.ptr 3 0),(2,.ptr 1 0),(1,.ptr 0 0)])
  (fun j=>[.box 55 ((au v).map .d),.box 55 [.d (.v (.int .i64 0)),.d (.v (.slice none 0 0)),.d (.v (.slice none 0 0))],.row 58 3 1 (ab (v.ranges.map bp)),.box 55 [.d (.v (.int .i64 v.id)),.own 2 1,.own 4 k],.row 71 4 k (ab ((pre.take k).map aT)),.box 71 [.d (.v (.int .i64 s.id)),.d (.v (.int .i64 s.at_.at_)),.d (.v (.int .i64 s.at_.len)),.own 6 j],.row 74 2 j (ab ((s.faces.take j).map bR))]) trivial ?_ ?_ ?_
 ·refine(ax ak 5 71 [.d (.v (.int .i64 s.id)),.d (.v (.int .i64 s.at_.at_)),.d (.v (.int .i64 s.at_.len)),.d (.v (.slice none 0 0))] 3 74 2 rfl rfl rfl).trans ?_;exact wf (hb:=cH) (hbh:=cH)
 ·intro j f hf hj _ C hC;have lh:(j:Int) < (s.faces.length:Int):=aa;have mW:=wi j aa;have ip:=jb.2 f (Xk hf);have jT:j+1<=100:=aa;have qt:(Ye j s.faces).length=j:=by rw[Xo];omega
  replace hf:=Xi hf;have BE:=hf.out;refine aq ?_<;>intros;refine hC _ _ trivial ((av 8 1 3 1 (f.addrs.map cm) rfl).trans ?_);simp only[eM,fz,ee,dX,eF,d7,aD,aZ,bg,Xl,Xp,Xz,Xx,reduceIte,and_true,true_and,and_self,and_false,false_and,Xw,XG,reduceCtorEq,da];exact wf (hh:=(by rw[aj hf.out,Xn,Xl,Xp,<-aI];rfl)) (hb:=cH) (hbh:=cH)
 ·intro _ C;refine aq ?_<;>intros;refine uP _ _ _ _ _ ?_ (.inl ⟨k+1,mo,rfl,rfl,rfl⟩) ((av 6 s.faces.length 74 2 (s.faces.map bR) rfl).trans ?_)
  ·have:=hm.out;have:=bV.out;omega
  simp only[eM,fz,ee,dX,eF,d7,aD,aZ,bg,Xl,Xp,Xz,Xx,reduceIte,and_true,true_and,and_self,and_false,false_and,Xw,XG,reduceCtorEq];exact wf (hh:=(by rw[aj hq.out,Xn,Xl,Xp,<-aI];rfl)) (hb:=cH) (hbh:=cH)):p:=h
theorem a2t {p:Prop}(h:p:=by
 obtain rfl:q=post.length:=aa;obtain rfl:k=v.subs.length:=by have:=bV.out;omega
 clear Db;refine aq ?_<;>intros;(try rw[Xq])
 refine(aJ 0 ak).trans ?_;refine(aJ 1 (by simp[bw])).trans ?_;exact(aJ 3 (by simp[bw])).trans (aW rfl rfl)):p:=h
theorem OW [Flo](v:Vpc)(pre post:List Sbn)(s0:Sbn)(hv:v.subs=pre++s0::post)(h4:v.ranges.length<=4)(h6:v.subs.length<=6)(h8:∀s∈v.subs,s.faces.length<=8/\∀f∈s.faces,f.addrs.length<=4):
 MSpec prog 44 [.d (.agg (au v))] [] (.agg [.d (.v (.int .i64 v.id)),.own 2 1,.own 4 v.subs.length]) [.gone,.gone,.row 58 3 1 (ab (v.ranges.map bp)),.gone,.row 71 4 v.subs.length (fu aT pre (ct s0 (.own 6 s0.faces.length)) post),.gone,.row 74 2 s0.faces.length (ab (s0.faces.map bR))]:=by
 replace h8:=Xi h8;have bP:v.subs.length=pre.length+1+post.length:=by rw[hv];simp;omega
 have hL:=Xi hv;have bV:=Xi bP;clear hv bP;refine mj func44 ntmps44 results44 ?_;refine aq ?_<;>intros;refine bL ag am (fun m e h=>(∃k,k<=pre.length/\m=v.subs.length - k/\e=[(4,.d (.v (.int .i64 k))),(3,.ptr 3 0),(2,.ptr 1 0),(1,.ptr 0 0)]/\h=[.box 55 ((au v).map .d),.box 55 [.d (.v (.int .i64 0)),.d (.v (.slice none 0 0)),.d (.v (.slice none 0 0))],.row 58 3 1 (ab (v.ranges.map bp)),.box 55 [.d (.v (.int .i64 v.id)),.own 2 1,.own 4 k],.row 71 4 k (ab ((pre.take k).map aT))])\/
  ∃k j,k=pre.length+1+j/\j<=post.length/\m=v.subs.length - k/\e=[(4,.d (.v (.int .i64 k))),(3,.ptr 3 0),(2,.ptr 1 0),(1,.ptr 0 0)]/\h=[.box 55 ((au v).map .d),.box 55 [.d (.v (.int .i64 0)),.d (.v (.slice none 0 0)),.d (.v (.slice none 0 0))],.row 58 3 1 (ab (v.ranges.map bp)),.box 55 [.d (.v (.int .i64 v.id)),.own 2 1,.own 4 k],.row 71 4 k (fu aT pre (ct s0 (.own 6 s0.faces.length)) (post.take j)),.gone,.row 74 2 s0.faces.length (ab (s0.faces.map bR))]) _ _ _ (.inl ⟨0,XE _,rfl,rfl,rfl⟩) ?_ ?_
 ·exact a2o
 ·rintro m e h (⟨k,hk,hm,rfl,rfl⟩|⟨k,q,Db,hj,hm,rfl,rfl⟩) CO uP
  ·have dF:(k:Int) < (v.subs.length:Int):=by have:=bV.out;omega
   have cX:=wi k aa;have jQ:k+1<=100:=by have:=bV.out;omega
   have kV:(Ye k pre).length=k:=by rw[Xo];omega
   have hm:=Xi hm;by_cases mo:k < pre.length
   ·exact Or
   ·obtain rfl:k=pre.length:=aa;have hs:v.subs[pre.length]? =some s0:=by rw[hL.out,XI (XA _),YE];rfl
    have jb:=h8.out s0 (Xk hs);replace hs:=Xi hs;have mz:=hs.out;obtain⟨k,jq⟩:∃k,k=pre.length:=⟨_,rfl⟩;obtain⟨s,rP⟩:∃s,s=s0:=⟨_,rfl⟩;rw[<-rP]at jb mz uP ⊢;rw[<-jq]at mz dF cX jQ kV uP ⊢;rw[jq,Xq]at kV;replace rP:=Xi rP;replace jq:=Xi jq;refine aq ?_<;>intros;refine bq ag am s.faces (fun _=>True) (fun j=>[(6,.d (.v (.int .i64 j))),(5,.ptr 5 0),(4,.d (.v (.int .i64 k))),(3,.ptr 3 0),(2,.ptr 1 0),(1,.ptr 0 0)])
     (fun j=>[.box 55 ((au v).map .d),.box 55 [.d (.v (.int .i64 0)),.d (.v (.slice none 0 0)),.d (.v (.slice none 0 0))],.row 58 3 1 (ab (v.ranges.map bp)),.box 55 [.d (.v (.int .i64 v.id)),.own 2 1,.own 4 k],.row 71 4 k (ab ((pre.take k).map aT)),.box 71 [.d (.v (.int .i64 s.id)),.d (.v (.int .i64 s.at_.at_)),.d (.v (.int .i64 s.at_.len)),.own 6 j],.row 74 2 j (ab ((s.faces.take j).map bR))]) trivial ?_ ?_ ?_
    ·exact a2b
    ·exact a1U
    ·exact a2n
  ·have hm:=Xi hm;have tK:=Xi Db;have jQ:pre.length+1+q+1<=100:=by have:=bV.out;omega
   have kV:(Ye q post).length=q:=by rw[Xo];omega
   have wF:k<=v.subs.length:=by have:=bV.out;omega
   by_cases zq:q < post.length
   ·obtain⟨s,hq⟩:∃s,post[q]? =some s:=⟨_,Xj zq⟩;have hs:v.subs[k]? =some s:=a2E
    have jb:=h8.out s (Xk hs);have dF:(k:Int) < (v.subs.length:Int):=by have:=bV.out;omega
    have cX:=wi k aa;replace hq:=Xi hq;replace hs:=Xi hs;have mz:=hs.out;clear Db;refine aq ?_<;>intros;refine bq ag am s.faces (fun _=>True) (fun j=>[(6,.d (.v (.int .i64 j))),(5,.ptr 7 0),(4,.d (.v (.int .i64 k))),(3,.ptr 3 0),(2,.ptr 1 0),(1,.ptr 0 0)])
     (fun j=>[.box 55 ((au v).map .d),.box 55 [.d (.v (.int .i64 0)),.d (.v (.slice none 0 0)),.d (.v (.slice none 0 0))],.row 58 3 1 (ab (v.ranges.map bp)),.box 55 [.d (.v (.int .i64 v.id)),.own 2 1,.own 4 k],.row 71 4 k (fu aT pre (ct s0 (.own 6 s0.faces.length)) (post.take q)),.gone,.row 74 2 s0.faces.length (ab (s0.faces.map bR)),.box 71 [.d (.v (.int .i64 s.id)),.d (.v (.int .i64 s.at_.at_)),.d (.v (.int .i64 s.at_.len)),.own 8 j],.row 74 2 j (ab ((s.faces.take j).map bR))]) trivial ?_ ?_ ?_
    ·refine(ax ak 7 71 [.d (.v (.int .i64 s.id)),.d (.v (.int .i64 s.at_.at_)),.d (.v (.int .i64 s.at_.len)),.d (.v (.slice none 0 0))] 3 74 2 rfl rfl rfl).trans ?_;exact wf (hb:=cH) (hbh:=cH)
    ·intro j f hf hj _ C hC;have lh:(j:Int) < (s.faces.length:Int):=aa;have mW:=wi j aa;have ip:=jb.2 f (Xk hf);have jT:j+1<=100:=aa;have qt:(Ye j s.faces).length=j:=by rw[Xo];omega
     replace hf:=Xi hf;have BE:=hf.out;refine aq ?_<;>intros;refine hC _ _ trivial ((av 10 1 3 1 (f.addrs.map cm) rfl).trans ?_);simp only[eM,fz,ee,dX,eF,d7,aD,aZ,bg,Xl,Xp,Xz,Xx,reduceIte,and_true,true_and,and_self,and_false,false_and,Xw,XG,reduceCtorEq,da];exact wf (hh:=(by rw[aj hf.out,Xn,Xl,Xp,<-aI];rfl)) (hb:=cH) (hbh:=cH)
    ·intro _ C;refine aq ?_<;>intros;refine uP _ _ _ _ _ ?_ (.inr ⟨k+1,q+1,by have:=tK.out;omega,zq,rfl,rfl,rfl⟩) ((av 8 s.faces.length 74 2 (s.faces.map bR) rfl).trans ?_)
     ·exact a2Q
     simp only[eM,fz,ee,dX,eF,d7,aD,aZ,bg,Xl,Xp,Xz,Xx,reduceIte,and_true,true_and,and_self,and_false,false_and,Xw,XG,reduceCtorEq,da,ct];exact wf (hh:=(by rw[aj hq.out,<-lG];rfl)) (hb:=cH) (hbh:=cH)
   ·exact a2t
theorem wE [Flo](v:Vpc)(id:Int)(hl:v.subs.length<=1000000000):ai prog 225 [.agg (au v),.v (.int .i64 id)] (.v (.int .i64 (cq (fun s=>s.id==id) v.subs))):=by
 refine pj func225 ntmps225 results225 ?_;refine aq ?_<;>intros;refine bq ag am v.subs (fun k=>(v.subs.take k).all (fun s=>!(s.id==id))=true) (fun k=>[(5,.d (.v (.int .i64 k))),(4,.d (.v (.int .i64 0))),(2,.ptr 0 0),(1,.d (.v (.int .i64 id)))]) (fun _=>[.box 55 ((au v).map .d)]) rfl (wf) ?_ ?_
 ·intro k p hp hk hI C hC;have dF:(k:Int) < (v.subs.length:Int):=aa;have cX:=wi k aa;replace hI:=Xi hI;refine zk ?_ ?_<;>intros
  ·exact a3w
  ·exact a3o
 ·exact a2X
theorem yP [Flo](s:Sbn)(id:Int)(hl:s.faces.length<=1000000000):ai prog 227 [.agg (aT s),.v (.int .i64 id)] (.v (.int .i64 (cq (fun f=>f.id==id) s.faces))):=by
 refine pj func227 ntmps227 results227 ?_;refine aq ?_<;>intros;refine bq ag am s.faces (fun k=>(s.faces.take k).all (fun f=>!(f.id==id))=true) (fun k=>[(5,.d (.v (.int .i64 k))),(4,.d (.v (.int .i64 0))),(2,.ptr 0 0),(1,.d (.v (.int .i64 id)))]) (fun _=>[.box 71 ((aT s).map .d)]) rfl (wf) ?_ ?_
 ·intro k p hp hk hI C hC;have dF:(k:Int) < (s.faces.length:Int):=aa;have cX:=wi k aa;replace hI:=Xi hI;refine zk ?_ ?_<;>intros
  ·exact a3w
  ·exact a3o
 ·exact a2X
theorem Bw {used:List Int}{p:Pfx}{n:Nat}{a:Int}(h:jD p a=false):gj used p n a=none:=by
 cases n with
 |zero=>rfl
 |succ n=>rw[gj,af (by simp[h])]
theorem tn {p:Pfx}{a:Int}(hr:p.right=true):jD p a=true↔p.at_ < a/\a < p.hi - 1:=by
 unfold jD;have hb:=p.hi_bd hr;have he:p.hi=p.at_+eV p.len:=rfl;simp only[Xv,decide_eq_true_eq,px,nu];constructor
 ·rintro⟨-,h1,h2⟩;omega
 ·rintro⟨h1,h2⟩;exact⟨⟨hr,by omega,by omega⟩,by omega,by omega⟩
theorem Fv [Flo](s:Sbn)(h8:s.faces.length<=8)(h4:∀f∈s.faces,f.addrs.length<=4)(hr:s.at_.right=true):ai prog 226 [.agg (aT s)] (.v (.int .i64 ((eT s).getD (-1)))):=by
 have oJ:ai prog 190 [.agg (aS s.at_)] (.v (.int .i64 (s.at_.hi - 1))):=M4 s.at_ (by rw[<-Pfx.right];exact hr);have U9:=s.at_.hi_bd hr;obtain⟨r1,r2,r3,r4,-⟩:=s.at_.bd hr;obtain⟨R,hR⟩:∃R,R=(eT s).getD (-1):=⟨_,rfl⟩;rw[<-hR];replace hR:=Xi hR;refine pj func226 ntmps226 results226 ?_;refine aq ?_<;>intros;refine bL ag am (fun m e h=>∃(i:Nat) (a:Int),a=s.at_.at_+i/\a<=s.at_.hi/\(0 < i->eT s=gj (s.faces.flatMap (·.addrs)) s.at_ (65537 - i) a)/\m=65537 - i/\
  e=[(3,.d (.v (.int .i64 a))),(2,.d (.v (.int .i64 0))),(1,.ptr 0 0)]/\h=[.box 71 ((aT s).map .d)]) 65537 _ _ ⟨0,s.at_.at_,by simp,by omega,fun h=>absurd h (Nat.lt_irrefl _),rfl,rfl,rfl⟩ (wf) ?_
 rintro m e h ⟨i,a,ha,hah,hle,hm,rfl,rfl⟩ C hC;have hil:i<=65536:=aa;replace hm:=Xi hm;replace hle:=Xi hle;replace ha:=Xi ha;by_cases qu:a<=s.at_.hi - 1
 ·have TD:decide (a<=s.at_.hi - 1)=true:=by simpa using qu
  have CX:IntKind.i64.wrap (a+1)=a+1:=by rw[IntKind.wrap_i64];have:=ha.out;omega
  have dM:=El s a;obtain⟨Z,hZ⟩:∃Z,Z=s.at_.hi - 1:=⟨_,rfl⟩;rw[<-hZ]at TD oJ;replace hZ:=Xi hZ;replace qu:=Xi qu;replace hah:=Xi hah;replace U9:=Xi U9;obtain⟨B,hB⟩:∃B,B=jD s.at_ a:=⟨_,rfl⟩;rw[<-hB]at dM;replace hB:=Xi hB;refine aq ?_<;>intros;refine bL ag am (fun m e h=>∃(k:Nat) (F:Bool),k<=s.faces.length/\F=(B&&!((s.faces.take k).flatMap (·.addrs)).contains a)/\m=s.faces.length - k/\
   e=[(5,.d (.v (.int .i64 k))),(4,.d (.v (.bool F))),(3,.d (.v (.int .i64 a))),(2,.d (.v (.int .i64 0))),(1,.ptr 0 0)]/\h=[.box 71 ((aT s).map .d)]) _ _ _ ⟨0,B,XE _,by simp,rfl,rfl,rfl⟩ (wf) ?_
  rintro m2 e h ⟨k,F,hk,hF,iL,rfl,rfl⟩ C2 jU;replace iL:=Xi iL;replace hF:=Xi hF;by_cases hlt:k < s.faces.length
  ·have dF:(k:Int) < (s.faces.length:Int):=aa;have cX:=wi k aa;obtain⟨f,hf⟩:∃f,s.faces[k]? =some f:=⟨_,Xj hlt⟩;have ip:=h4 f (Xk hf);refine aq ?_<;>intros;refine bL ag am (fun m e h=>∃(j:Nat) (F2:Bool),j<=f.addrs.length/\F2=(B&&!((s.faces.take k).flatMap (·.addrs)++f.addrs.take j).contains a)/\m=f.addrs.length - j/\
    e=[(6,.d (.v (.int .i64 j))),(5,.d (.v (.int .i64 k))),(4,.d (.v (.bool F2))),(3,.d (.v (.int .i64 a))),(2,.d (.v (.int .i64 0))),(1,.ptr 0 0)]/\h=[.box 71 ((aT s).map .d)]) _ _ _ ⟨0,F,XE _,by rw[hF.out];simp,rfl,rfl,rfl⟩ (wf) ?_
   rintro m3 e h ⟨j,F2,hj,Qe,hm3,rfl,rfl⟩ C3 P8;replace hm3:=Xi hm3;replace Qe:=Xi Qe;by_cases qt:j < f.addrs.length
   ·have lh:(j:Int) < (f.addrs.length:Int):=aa;have mW:=wi j aa;obtain⟨x,hx⟩:∃x,f.addrs[j]? =some x:=⟨_,Xj qt⟩;have dN:(B&&!((s.faces.take k).flatMap (·.addrs)++f.addrs.take (j+1)).contains a)=(F2&&(x !=a)):=by
     rw[Qe.out,aj hx,<-X3];generalize (s.faces.take k).flatMap (·.addrs)++f.addrs.take j=L;cases B
     ·rfl
     ·rw[Yp,Yp,Yi];simp[ZO,X0];intro _;exact⟨fun h e=>h e.symm,fun h e=>h e.symm⟩
    replace dN:=Xi dN;cases F2 with
    |true=>
     refine aq ?_<;>intros;refine P8 _ _ _ _ _ ?_ ⟨j+1,(x !=a),qt,by rw[dN.out];rfl,rfl,rfl,rfl⟩ (wf);have:=hm3.out;omega
    |false=>
     refine aq ?_<;>intros;refine P8 _ _ _ _ _ ?_ ⟨j+1,false,qt,by rw[dN.out];rfl,rfl,rfl,rfl⟩ (wf);have:=hm3.out;omega
   ·obtain rfl:j=f.addrs.length:=aa;have dN:F2=(B&&!((s.faces.take (k+1)).flatMap (·.addrs)).contains a):=by
     rw[Qe.out,Xq,aj hf,Zu];simp
    replace dN:=Xi dN;refine aq ?_<;>intros;refine jU _ _ _ _ _ ?_ ⟨k+1,F2,hlt,dN.out,rfl,rfl,rfl⟩ (wf);have:=iL.out;omega
  ·obtain rfl:k=s.faces.length:=aa;have Qe:=hF.out;rw[Xq]at Qe;replace Qe:=Xi Qe;clear hF;have hi1:∀n,gj (s.faces.flatMap (·.addrs)) s.at_ (n+1) a=if B=true then (if a∈s.faces.flatMap (·.addrs)then gj (s.faces.flatMap (·.addrs)) s.at_ n (a+1)else some a)else none:=fun n=>by rw[gj,<-hB.out]
   have VO:65537 - i=(65536 - i)+1:=aa;replace hi1:=Xi hi1;cases F with
   |true=>
    have hb:R=a:=by
     have h1:=Qe.out;have TH:B=true:=by cases B<;>simp at h1 ⊢
     have hau:a∉s.faces.flatMap (·.addrs):=by
      rw[TH,Yp]at h1;intro hm;rw[ZO.2 hm]at h1;simp at h1
     have mC:0 < i:=by
      have h2:=(tn hr).1 (by rw[<-hB.out];exact TH);have:=ha.out;omega
     rw[hR.out,hle.out mC,VO,hi1.out,ah TH,af hau];rfl
    rw[hb];replace hb:=Xi hb;exact aY;all_goals exact aO.refl _
   |false=>
    have Tz:eT s=gj (s.faces.flatMap (·.addrs)) s.at_ (65537 - (i+1)) (a+1):=by
     rw[show 65537 - (i+1)=65536 - i by omega];have h1:=Qe.out;by_cases mC:0 < i
     ·rw[hle.out mC,VO,hi1.out];by_cases TH:B=true
      ·rw[ah TH,ah];rw[TH,Yp]at h1;rw[<-ZO];revert h1;cases(s.faces.flatMap (·.addrs)).contains a<;>simp
      ·rw[af TH];have h2:jD s.at_ (a+1)=false:=by
        rw[YB,ne_eq,tn hr];intro h3;have h4:jD s.at_ a=true:=(tn hr).2 ⟨by have:=ha.out;omega,by omega⟩;rw[<-hB.out]at h4;exact TH h4
       rw[Bw h2]
     ·obtain rfl:i=0:=aa;have:=ha.out;rw[show a+1=s.at_.at_+1 by omega];rfl
    replace Tz:=Xi Tz;refine aq ?_<;>intros;refine hC _ _ _ _ _ ?_ ⟨i+1,a+1,by rw[ha.out];omega,by have:=qu.out;omega,fun _=>Tz.out,rfl,rfl,rfl⟩ (wf);have:=hm.out;omega
 ·have TD:decide (a<=s.at_.hi - 1)=false:=by simpa using qu
  have hb:R= -1:=by
   have h2:jD s.at_ a=false:=by
    rw[YB,ne_eq,tn hr];omega
   rw[hR.out,hle.out (by have:=ha.out;omega),Bw h2];rfl
  rw[hb];replace hb:=Xi hb;replace qu:=Xi qu;exact aY;all_goals exact aO.refl _
theorem yQ {u:List Int}{p:Pfx}{a:Int}:∀{n:Nat}{b:Int},gj u p n b=some a->jD p a=true
 |0,_,h=>by simp[gj]at h
 |n+1,b,h=>by
  rw[gj]at h;split at h
  ·rename_i hb;split at h
   ·exact yQ h
   ·rw[<-XU.inj h];exact hb
  ·cases h
theorem Lp [Flo](v:Vpc)(sub id:Int)(hl:v.subs.length<=9223372036854775807)(hf:∀s∈v.subs,s.faces.length<=9223372036854775807):ai prog 173 [.agg (au v),.v (.int .i64 sub),.v (.int .i64 id)] (.tup [.agg (au (ik v sub id).1),.v (.int .i64 (ik v sub id).2.1),.v (.int .i64 (ik v sub id).2.2)]):=by
 obtain⟨R,hR⟩:∃R,R=ik v sub id:=⟨_,rfl⟩;rw[<-hR];replace hR:=Xi hR;have bo:=ic v hl hf;clear hl hf;by_cases hc:bM v=0
 ·have hk:=be hc;have LO:=hk.n4;have F8:=hk.n6;have dh:=wE v sub aa;unfold cq at dh
  have aR:=hR.out;unfold ik at aR;rw[af (by simpa using hc)]at aR;rw[hc]at bo;clear hR hc;have Ac:decide ((-1:Int) < 0)=true:=rfl;cases hf:v.subs.findIdx? (fun s=>s.id==sub)with
  |none=>
   rw[hf]at dh aR;simp only at dh aR;rw[aR];replace aR:=Xi aR;clear hk hf;refine pj func173 ntmps173 results173 ?_;refine aq ?_<;>intros;all_goals exact dg
  |some i=>
   obtain⟨pre,s,post,hv,gz,-,hs⟩:=gk hf;have mQ:=Xk hs;have jb:=hk.n8 s mQ;have iE:=OW v pre post s hv hk.n4 hk.n6 hk.n8;have hsr:=qj hk mQ;have hle:=Fv s jb.1 jb.2 hsr.1;have hw:ai prog 75 [.v (.int .i64 id),.v (.int .i64 1),.v (.int .i64 65536)] (.v (.bool (cD id))):=gI _ _ _;have j1:=yP s id aa;have mC:decide ((i:Int) < 0)=false:=ak;have rS:v.subs.length=pre.length+1+post.length:=by rw[hv];simp;omega
   rw[hf]at dh aR;simp only[hs]at dh aR;have dN:=Xi hsr.2.2.1;clear hk hf hsr;have hf0:=gp (fun f:Fce=>f.id==id) s.faces;obtain⟨J,hJ⟩:∃J,J=cq (fun f:Fce=>f.id==id) s.faces:=⟨_,rfl⟩;rw[<-hJ]at j1 hf0;clear hJ;unfold lz at aR;by_cases bE:cD id=false\/(s.faces.any fun f=>f.id==id)=true\/s.faces.length=8\/(eT s).isSome=false
   ·replace hv:=Xi hv;clear iE gz rS;cases b1:cD id with
    |false=>
     rw[b1]at aR hw;have hr:R=(Vpc.zero,0,3):=by rw[aR];rfl
     rw[hr];replace hr:=Xi hr;clear aR bE;refine pj func173 ntmps173 results173 ?_;refine aq ?_<;>intros;all_goals exact dg
    |true=>
    rw[b1]at aR hw;cases b2:s.faces.any fun f=>f.id==id with
    |true=>
     rw[b2]at aR hf0;have hr:R=(Vpc.zero,0,6):=by rw[aR];simp
     rw[hr];replace hr:=Xi hr;clear aR bE;refine pj func173 ntmps173 results173 ?_;refine aq ?_<;>intros;all_goals exact dg
    |false=>
    rw[b2]at aR hf0;by_cases b3:s.faces.length=8
    ·have hr:R=(Vpc.zero,0,2):=by rw[aR];simp[b3]
     have hd:decide ((s.faces.length:Int)>=8)=true:=aN;rw[hr];replace hr:=Xi hr;replace b3:=Xi b3;clear aR bE;refine pj func173 ntmps173 results173 ?_;refine aq ?_<;>intros;all_goals exact dg
    ·have hd:decide ((s.faces.length:Int)>=8)=false:=aN;have b4:eT s=none:=by
      rcases bE with h|h|h|h
      ·rw[b1]at h;cases h
      ·rw[b2]at h;cases h
      ·exact absurd h b3
      ·simpa using h
     have hr:R=(Vpc.zero,0,8):=by rw[aR];simp[b3,b4]
     rw[b4,Option.getD_none]at hle;have Ac:decide ((-1:Int) < 0)=true:=rfl;rw[hr];replace hr:=Xi hr;clear aR bE b4;refine pj func173 ntmps173 results173 ?_;refine aq ?_<;>intros;all_goals exact dg
   ·obtain⟨b1,bE⟩:=not_or.1 bE;obtain⟨b2,bE⟩:=not_or.1 bE;obtain⟨b3,b4⟩:=not_or.1 bE;simp only[Bool.not_eq_false,ZM]at b1 b2 b4;obtain⟨a,ha⟩:=Ze.1 b4;have hae:0<=a:=by
     have h1:=Cu (yQ (show gj _ _ _ _=some a from ha));obtain⟨-,-,r3,-,-⟩:=s.at_.bd h1.1;omega
    rw[b1]at hw;rw[b2]at hf0;rw[ha,YD]at hle;have ha0:decide (a < 0)=false:=by simpa using hae
    have hd:decide ((s.faces.length:Int)>=8)=false:=aN;have jQ:(s.faces.length+1)*32<=140737488355328:=aa;have gn:R=({v with subs:=pre++{s with faces:=dn (·.id) ⟨id,[a]⟩ s.faces}::post},a,0):=by
     rw[aR,af (by simp[b1,b2,b3,ha]),ha,YD];rw[hv,<-gz,Yu _ _ (XA _),YE,XT]
    clear aR;replace hv:=Xi hv;replace gn:=Xi gn;replace b2:=Xi b2;clear b4;have hwl:IntKind.i64.wrap (((s.faces.length+1:Nat):Int) - 1)=(s.faces.length:Int):=by rw[IntKind.wrap_i64];omega
    subst gz;refine pj func173 ntmps173 results173 ?_;have z1z:=@ct.eq_1;have z2z:=Ln.mk (ls:=[]) (iE);refine aq ?_<;>intros;clear bo dh hle hw j1 iE;have VE:∀f∈s.faces,f.id≠id:=fun f hf he=>by
     have:=Yh.1 b2.out f hf;simp at this;exact this he
    replace VE:=Xi VE;refine bL ag am (fun m e h=>∃(q:Nat) (out:List Fce),CE (fun f:Fce=>f.id) ⟨id,[a]⟩ s.faces q out/\out.length=s.faces.length+1/\m=q/\e=[(14,.d (.v (.int .i64 q))),(13,.rp 6 (pre.length+1+post.length) 4 pre.length 0),(12,.ptr 9 0),(11,.d (.v (.int .i64 a))),(6,.ptr 1 0)]/\h=[.box 55 ((au v).map .d),.box 55 [.d (.v (.int .i64 0)),.d (.v (.slice none 0 0)),.d (.v (.slice none 0 0))],.gone,.gone,.row 58 3 1 (ab (v.ranges.map bp)),.gone,.row 71 4 (pre.length+1+post.length) (fu aT pre (ct s (.own 8 (s.faces.length+1))) post),.gone,.row 74 2 (s.faces.length+1) (ab (out.map bR)),.box 55 [.d (.v (.int .i64 v.id)),.own 4 1,.own 6 (pre.length+1+post.length)]]) _ _ _ ⟨s.faces.length,s.faces++[⟨id,[a]⟩],OK,by simp,rfl,rfl,rfl⟩ (wf (hh:=(by rw[Xn];rfl)) (hb:=cH) (hbh:=cH)) ?_;rintro m e h ⟨q,out,vR,o4,hm,rfl,rfl⟩ C hC;have uL:=vR.1;have hx:=OL vR;replace vR:=Xi vR;replace hm:=Xi hm;by_cases h0:0 < q
    ·have VC:decide ((q:Int)>0)=true:=aN;obtain⟨y,hy⟩:∃y,s.faces[q - 1]? =some y:=⟨_,Xj aa⟩;have P5:=OM vR.out h0 hy;have CZ:IntKind.i64.wrap ((q:Int) - 1)=((q - 1:Nat):Int):=by rw[IntKind.wrap_i64];omega
     have qz:q < out.length:=aa;have hq3:q - 1 < out.length:=aa;replace o4:=Xi o4;replace h0:=Xi h0;replace hy:=Xi hy;cases b5:decide (y.id>id)with
     |true=>
      have jT:=ON vR.out h0.out hy.out (of_decide_eq_true b5);replace jT:=Xi jT;have PL:∀X:List PV,((ab (out.map bR)).set (q - 1) X)[q]? =some [.d (.v (.int .i64 id)),.d (.sl 1 [cm a])]:=fun X=>by
       rw[C' (by have:=h0.out;omega),iu,Xr,hx];rfl
      have z1z:=@ct.eq_1;refine aq ?_<;>intros;refine hC _ _ _ _ _ ?_ ⟨q - 1,(out.set (q - 1) ⟨id,[a]⟩).set q y,jT.out,by rw[YS,YS];exact o4.out,rfl,rfl,rfl⟩ (wf (hh:=(by simp only[ZU,ab];rfl)) (hb:=cH) (hbh:=cH));have:=hm.out;have:=h0.out;omega
     |false=>
      have he:=Bs vR.out dN.out (fun z _ hz=>by
       rw[hy.out]at hz;rw[<-XU.inj hz];have h1:=VE.out y (Xk hy.out);have h2:=of_decide_eq_false b5;show y.id < id;omega)
      rw[<-he]at gn;have kW:=gn.out;rw[kW];replace kW:=Xi kW;replace he:=Xi he;have z1z:=@ct.eq_1;refine aq ?_<;>intros;all_goals(simp only[au,aT,Xn,Xl];exact dg)
    ·have VC:decide ((q:Int)>0)=false:=aN;have he:=Bs vR.out dN.out (fun z h _=>absurd h h0);rw[<-he]at gn;have kW:=gn.out;rw[kW];replace kW:=Xi kW;replace he:=Xi he;replace h0:=Xi h0;have qz:q < out.length:=aa;replace o4:=Xi o4;have z1z:=@ct.eq_1;refine aq ?_<;>intros;all_goals(simp only[au,aT,Xn,Xl];exact dg)
 ·have h1:(bM v !=0)=true:=by simpa using hc
  have hr:R=(Vpc.zero,0,bM v):=by rw[hR.out];unfold ik;rw[ah hc]
  rw[hr];replace hr:=Xi hr;clear hR;refine pj func173 ntmps173 results173 ?_;refine aq ?_<;>intros;exact dg
theorem UN [Flo](v:Vpc)(pre post:List Sbn)(s0:Sbn)(preF postF:List Fce)(f0:Fce)(hv:v.subs=pre++s0::post)(Ap:s0.faces=preF++f0::postF)(h4:v.ranges.length<=4)(h6:v.subs.length<=6)(h8:∀s∈v.subs,s.faces.length<=8/\∀f∈s.faces,f.addrs.length<=4):
 MSpec prog 44 [.d (.agg (au v))] [] (.agg [.d (.v (.int .i64 v.id)),.own 2 1,.own 4 v.subs.length]) [.gone,.gone,.row 58 3 1 (ab (v.ranges.map bp)),.gone,.row 71 4 v.subs.length (fu aT pre (ct s0 (.own 6 s0.faces.length)) post),.gone,.row 74 2 s0.faces.length (fu bR preF (ek f0 (.own 8 1)) postF),.gone,.row 3 1 1 (ab (f0.addrs.map cm))]:=by
 replace h8:=Xi h8;have bP:v.subs.length=pre.length+1+post.length:=by rw[hv];simp;omega
 have hL:=Xi hv;have bV:=Xi bP;clear hv bP;have FV:s0.faces.length=preF.length+1+postF.length:=by rw[Ap];simp;omega
 have Vt:=Xi Ap;have iq:=Xi FV;clear Ap FV;refine mj func44 ntmps44 results44 ?_;refine aq ?_<;>intros;refine bL ag am (fun m e h=>(∃k,k<=pre.length/\m=v.subs.length - k/\e=[(4,.d (.v (.int .i64 k))),(3,.ptr 3 0),(2,.ptr 1 0),(1,.ptr 0 0)]/\h=[.box 55 ((au v).map .d),.box 55 [.d (.v (.int .i64 0)),.d (.v (.slice none 0 0)),.d (.v (.slice none 0 0))],.row 58 3 1 (ab (v.ranges.map bp)),.box 55 [.d (.v (.int .i64 v.id)),.own 2 1,.own 4 k],.row 71 4 k (ab ((pre.take k).map aT))])\/
  ∃k j,k=pre.length+1+j/\j<=post.length/\m=v.subs.length - k/\e=[(4,.d (.v (.int .i64 k))),(3,.ptr 3 0),(2,.ptr 1 0),(1,.ptr 0 0)]/\h=[.box 55 ((au v).map .d),.box 55 [.d (.v (.int .i64 0)),.d (.v (.slice none 0 0)),.d (.v (.slice none 0 0))],.row 58 3 1 (ab (v.ranges.map bp)),.box 55 [.d (.v (.int .i64 v.id)),.own 2 1,.own 4 k],.row 71 4 k (fu aT pre (ct s0 (.own 6 s0.faces.length)) (post.take j)),.gone,.row 74 2 s0.faces.length (fu bR preF (ek f0 (.own 8 1)) postF),.gone,.row 3 1 1 (ab (f0.addrs.map cm))]) _ _ _ (.inl ⟨0,XE _,rfl,rfl,rfl⟩) ?_ ?_
 ·exact a2o
 ·rintro m e h (⟨k,hk,hm,rfl,rfl⟩|⟨k,q,Db,hj,hm,rfl,rfl⟩) CO uP
  ·have dF:(k:Int) < (v.subs.length:Int):=by have:=bV.out;omega
   have cX:=wi k aa;have jQ:k+1<=100:=by have:=bV.out;omega
   have kV:(Ye k pre).length=k:=by rw[Xo];omega
   have hm:=Xi hm;by_cases mo:k < pre.length
   ·exact Or
   ·obtain rfl:k=pre.length:=aa;have hs:v.subs[pre.length]? =some s0:=by rw[hL.out,XI (XA _),YE];rfl
    have jb:=h8.out s0 (Xk hs);replace hs:=Xi hs;have mz:=hs.out;obtain⟨k,jq⟩:∃k,k=pre.length:=⟨_,rfl⟩;rw[<-jq]at mz dF cX jQ kV uP ⊢;rw[jq,Xq]at kV;replace jq:=Xi jq;refine aq ?_<;>intros;refine bL ag am (fun m e h=>(∃j,j<=preF.length/\m=s0.faces.length - j/\e=[(6,.d (.v (.int .i64 j))),(5,.ptr 5 0),(4,.d (.v (.int .i64 k))),(3,.ptr 3 0),(2,.ptr 1 0),(1,.ptr 0 0)]/\
     h=[.box 55 ((au v).map .d),.box 55 [.d (.v (.int .i64 0)),.d (.v (.slice none 0 0)),.d (.v (.slice none 0 0))],.row 58 3 1 (ab (v.ranges.map bp)),.box 55 [.d (.v (.int .i64 v.id)),.own 2 1,.own 4 k],.row 71 4 k (ab ((pre.take k).map aT)),.box 71 [.d (.v (.int .i64 s0.id)),.d (.v (.int .i64 s0.at_.at_)),.d (.v (.int .i64 s0.at_.len)),.own 6 j],.row 74 2 j (ab ((preF.take j).map bR))])\/
     ∃j i,j=preF.length+1+i/\i<=postF.length/\m=s0.faces.length - j/\e=[(6,.d (.v (.int .i64 j))),(5,.ptr 5 0),(4,.d (.v (.int .i64 k))),(3,.ptr 3 0),(2,.ptr 1 0),(1,.ptr 0 0)]/\
      h=[.box 55 ((au v).map .d),.box 55 [.d (.v (.int .i64 0)),.d (.v (.slice none 0 0)),.d (.v (.slice none 0 0))],.row 58 3 1 (ab (v.ranges.map bp)),.box 55 [.d (.v (.int .i64 v.id)),.own 2 1,.own 4 k],.row 71 4 k (ab ((pre.take k).map aT)),.box 71 [.d (.v (.int .i64 s0.id)),.d (.v (.int .i64 s0.at_.at_)),.d (.v (.int .i64 s0.at_.len)),.own 6 j],.row 74 2 j (fu bR preF (ek f0 (.own 8 1)) (postF.take i)),.gone,.row 3 1 1 (ab (f0.addrs.map cm))]) _ _ _ (.inl ⟨0,XE _,rfl,rfl,rfl⟩) ?_ ?_
    ·refine(ax ak 5 71 [.d (.v (.int .i64 s0.id)),.d (.v (.int .i64 s0.at_.at_)),.d (.v (.int .i64 s0.at_.len)),.d (.v (.slice none 0 0))] 3 74 2 rfl rfl rfl).trans ?_;exact wf (hb:=cH) (hbh:=cH)
    ·rintro m2 e h (⟨j,hj,iL,rfl,rfl⟩|⟨j,i,kX,hi,iL,rfl,rfl⟩) C hC
     ·have lh:(j:Int) < (s0.faces.length:Int):=by have:=iq.out;omega
      have mW:IntKind.i64.wrap ((j:Int)+1)=((j+1:Nat):Int):=by rw[IntKind.wrap_i64];have:=jb.1;omega
      have jT:j+1<=100:=by have:=jb.1;omega
      have qt:(Ye j preF).length=j:=by rw[Xo];omega
      have iL:=Xi iL;by_cases zq:j < preF.length
      ·obtain⟨f,hq⟩:∃f,preF[j]? =some f:=⟨_,Xj zq⟩;have hf:s0.faces[j]? =some f:=by rw[Vt.out,XW zq];exact hq
       have ip:=jb.2 f (Xk hf);replace hf:=Xi hf;replace hq:=Xi hq;have BE:=hf.out;refine aq ?_<;>intros;refine hC _ _ _ _ _ ?_ (.inl ⟨j+1,zq,rfl,rfl,rfl⟩) ((av 8 1 3 1 (f.addrs.map cm) rfl).trans ?_)
       ·exact a4e
       simp only[eM,fz,ee,dX,eF,d7,aD,aZ,bg,Xl,Xp,Xz,Xx,reduceIte,and_true,true_and,and_self,and_false,false_and,Xw,XG,reduceCtorEq,da];exact wf (hh:=(by rw[aj hq.out,Xn,Xl,Xp,<-aI];rfl)) (hb:=cH) (hbh:=cH)
      ·obtain rfl:j=preF.length:=aa;have hf:s0.faces[preF.length]? =some f0:=by rw[Vt.out,XI (XA _),YE];rfl
       have ip:=jb.2 f0 (Xk hf);replace hf:=Xi hf;have BE:=hf.out;refine aq ?_<;>intros;refine hC _ _ _ _ _ ?_ (.inr ⟨preF.length+1,0,rfl,XE _,rfl,rfl,rfl⟩) ((aJ 7 ak).trans ?_)
       ·exact a4e
       exact wf (hb:=cH) (hbh:=cH)
     ·have iL:=Xi iL;have CQ:=Xi kX;have jT:preF.length+1+i+1<=100:=by have:=iq.out;have:=jb.1;omega
      have hli:(Ye i postF).length=i:=by rw[Xo];omega
      have Pm:j<=s0.faces.length:=by have:=iq.out;omega
      by_cases hip:i < postF.length
      ·obtain⟨f,hq⟩:∃f,postF[i]? =some f:=⟨_,Xj hip⟩;have hf:s0.faces[j]? =some f:=a4C
       have ip:=jb.2 f (Xk hf);have lh:(j:Int) < (s0.faces.length:Int):=by have:=iq.out;omega
       have mW:IntKind.i64.wrap ((j:Int)+1)=((j+1:Nat):Int):=by rw[IntKind.wrap_i64];have:=jb.1;omega
       replace hf:=Xi hf;replace hq:=Xi hq;have BE:=hf.out;clear kX;refine aq ?_<;>intros;refine hC _ _ _ _ _ ?_ (.inr ⟨j+1,i+1,by have:=CQ.out;omega,hip,rfl,rfl,rfl⟩) ((av 10 1 3 1 (f.addrs.map cm) rfl).trans ?_)
       ·have:=iL.out;have:=iq.out;have:=CQ.out;omega
       simp only[eM,fz,ee,dX,eF,d7,aD,aZ,bg,Xl,Xp,Xz,Xx,reduceIte,and_true,true_and,and_self,and_false,false_and,Xw,XG,reduceCtorEq,da,ek];exact wf (hh:=(by rw[aj hq.out,<-lG];rfl)) (hb:=cH) (hbh:=cH)
      ·exact a2f
  ·have hm:=Xi hm;have tK:=Xi Db;have jQ:pre.length+1+q+1<=100:=by have:=bV.out;omega
   have kV:(Ye q post).length=q:=by rw[Xo];omega
   have wF:k<=v.subs.length:=by have:=bV.out;omega
   by_cases zq:q < post.length
   ·obtain⟨s,hq⟩:∃s,post[q]? =some s:=⟨_,Xj zq⟩;have hs:v.subs[k]? =some s:=a2E
    have jb:=h8.out s (Xk hs);have dF:(k:Int) < (v.subs.length:Int):=by have:=bV.out;omega
    have cX:=wi k aa;replace hq:=Xi hq;replace hs:=Xi hs;have mz:=hs.out;clear Db;refine aq ?_<;>intros;refine bq ag am s.faces (fun _=>True) (fun j=>[(6,.d (.v (.int .i64 j))),(5,.ptr 9 0),(4,.d (.v (.int .i64 k))),(3,.ptr 3 0),(2,.ptr 1 0),(1,.ptr 0 0)])
     (fun j=>[.box 55 ((au v).map .d),.box 55 [.d (.v (.int .i64 0)),.d (.v (.slice none 0 0)),.d (.v (.slice none 0 0))],.row 58 3 1 (ab (v.ranges.map bp)),.box 55 [.d (.v (.int .i64 v.id)),.own 2 1,.own 4 k],.row 71 4 k (fu aT pre (ct s0 (.own 6 s0.faces.length)) (post.take q)),.gone,.row 74 2 s0.faces.length (fu bR preF (ek f0 (.own 8 1)) postF),.gone,.row 3 1 1 (ab (f0.addrs.map cm)),.box 71 [.d (.v (.int .i64 s.id)),.d (.v (.int .i64 s.at_.at_)),.d (.v (.int .i64 s.at_.len)),.own 10 j],.row 74 2 j (ab ((s.faces.take j).map bR))]) trivial ?_ ?_ ?_
    ·refine(ax ak 9 71 [.d (.v (.int .i64 s.id)),.d (.v (.int .i64 s.at_.at_)),.d (.v (.int .i64 s.at_.len)),.d (.v (.slice none 0 0))] 3 74 2 rfl rfl rfl).trans ?_;exact wf (hb:=cH) (hbh:=cH)
    ·intro j f hf hj _ C hC;have lh:(j:Int) < (s.faces.length:Int):=aa;have mW:=wi j aa;have ip:=jb.2 f (Xk hf);have jT:j+1<=100:=aa;have qt:(Ye j s.faces).length=j:=by rw[Xo];omega
     replace hf:=Xi hf;have BE:=hf.out;refine aq ?_<;>intros;refine hC _ _ trivial ((av 12 1 3 1 (f.addrs.map cm) rfl).trans ?_);simp only[eM,fz,ee,dX,eF,d7,aD,aZ,bg,Xl,Xp,Xz,Xx,reduceIte,and_true,true_and,and_self,and_false,false_and,Xw,XG,reduceCtorEq,da];exact wf (hh:=(by rw[aj hf.out,Xn,Xl,Xp,<-aI];rfl)) (hb:=cH) (hbh:=cH)
    ·intro _ C;refine aq ?_<;>intros;refine uP _ _ _ _ _ ?_ (.inr ⟨k+1,q+1,by have:=tK.out;omega,zq,rfl,rfl,rfl⟩) ((av 10 s.faces.length 74 2 (s.faces.map bR) rfl).trans ?_)
     ·exact a2Q
     simp only[eM,fz,ee,dX,eF,d7,aD,aZ,bg,Xl,Xp,Xz,Xx,reduceIte,and_true,true_and,and_self,and_false,false_and,Xw,XG,reduceCtorEq,da,ct];exact wf (hh:=(by rw[aj hq.out,<-lG];rfl)) (hb:=cH) (hbh:=cH)
   ·exact a2t
theorem a4R {p:Prop}(h:p:=by
 intro h;have:=congrArg Zm h;rw[aH,Xs,XX]at this;omega):p:=h
theorem Fw {α:Type}{enc:α->List D}{l:List α}{i:Nat}(hi:i < l.length):(aC (ab (l.map enc)) i (Ye (l.length - (i+1)) (_s (i+1) (ab (l.map enc))))).length=l.length:=by
 have:=mE (ab (l.map enc)) i (i+1) l.length (by rw[aH,Xs];exact hi) rfl (by rw[aH,Xs]);rw[aH,Xs]at this;exact this
theorem Fx {α:Type}{enc:α->List D}{l:List α}{i:Nat}(hi:i < l.length):Ye (i+(l.length - (i+1))) (aC (ab (l.map enc)) i (Ye (l.length - (i+1)) (_s (i+1) (ab (l.map enc)))))=ab ((l.eraseIdx i).map enc):=by
 have hL:(ab (l.map enc)).length=l.length:=by rw[aH,Xs]
 have e1:ab ((l.eraseIdx i).map enc)=(ab (l.map enc)).eraseIdx i:=by rw[gD];exact gD _ _ _
 rw[e1];generalize ab (l.map enc)=L at*;have e2:Ye (l.length - (i+1)) (_s (i+1) L)=_s (i+1) L:=XM (by rw[XO];omega);rw[e2];unfold aC;rw[X3,List.take_append,List.take_take,Xo];rw[show min (i+(l.length - (i+1))) i=i by omega,show min i L.length=i by omega,show i+(l.length - (i+1)) - i=(_s (i+1) L).length by rw[XO];omega];rw[List.take_left',YG];rfl
theorem HE [Flo](v:Vpc)(id:Int)(hl:v.subs.length<=9223372036854775807)(hf:∀s∈v.subs,s.faces.length<=9223372036854775807):ai prog 172 [.agg (au v),.v (.int .i64 id)] (.tup [.agg (au (fO v id).1),.v (.int .i64 (fO v id).2)]):=by
 obtain⟨R,hR⟩:∃R,R=fO v id:=⟨_,rfl⟩;rw[<-hR];replace hR:=Xi hR;have bo:=ic v hl hf;clear hl hf;by_cases hc:bM v=0
 ·have hk:=be hc;have LO:=hk.n4;have F8:=hk.n6;have iE:=yD v hk.n4 hk.n6 hk.n8;have dh:=wE v id aa;unfold cq at dh
  have aR:=hR.out;unfold fO at aR;rw[af (by simpa using hc)]at aR;rw[hc]at bo;clear hR hc;cases hf:v.subs.findIdx? (fun s=>s.id==id)with
  |none=>
   rw[hf]at dh aR;simp only at dh aR;have Ac:decide ((-1:Int) < 0)=true:=rfl;rw[aR];replace aR:=Xi aR;clear hk hf;refine pj func172 ntmps172 results172 ?_;refine aq ?_<;>intros;all_goals exact dg
  |some i=>
   obtain⟨s,hs⟩:∃s,v.subs[i]? =some s:=⟨_,Xj (XK.1 hf).1⟩;have hi:=(XK.1 hf).1;rw[hf]at dh aR;simp only[hs,Yb,ne_eq,XU.injEq]at dh aR;have mC:decide ((i:Int) < 0)=false:=ak;have rS:=(hk.n8 s (Xk hs)).1;clear hk hf;by_cases h0:s.faces.length=0
   ·rw[af (by simpa using h0)]at aR;have hd:decide ((s.faces.length:Int)>0)=false:=by simp[h0]
    have cX:=wi i aa;have h0i:(0:Int)<=(i:Int):=aa;have a1T:(i:Int)<=(v.subs.length:Int):=aa;have a1K:((i+1:Nat):Int)<=(v.subs.length:Int):=aa;have bG:¬ab (v.subs.map aT)=[]:=a4R
    have pZ:=Fw (enc:=aT) hi;have nS:=Fx (enc:=aT) hi;have SI:0 < v.subs.length:=aa;have FQ:min (v.subs.length - (i+1)) (v.subs.length - (i+1))=v.subs.length - (i+1):=Zt _;have hlt:i+(v.subs.length - (i+1))<=v.subs.length:=aa;rw[aR];replace aR:=Xi aR;replace h0:=Xi h0;refine pj func172 ntmps172 results172 ?_;have z1z:=@Xo.{0};have z2z:=@XO.{0};have z3z:=Ln.mk (ls:=[]) (iE);refine fl ?_ ?_ ?_ ?_ ?_ ?_ ?_ ?_<;>first|(with_reducible exact True.intro)|intros
    all_goals exact dg
   ·rw[ah (by simpa using h0)]at aR;have hd:decide ((s.faces.length:Int)>0)=true:=aN;rw[aR];replace aR:=Xi aR;refine pj func172 ntmps172 results172 ?_;refine aq ?_<;>intros;all_goals exact dg
 ·have h1:(bM v !=0)=true:=by simpa using hc
  have hr:R=(Vpc.zero,bM v):=by rw[hR.out];unfold fO;rw[ah hc]
  rw[hr];replace hr:=Xi hr;clear hR;refine pj func172 ntmps172 results172 ?_;refine aq ?_<;>intros;exact dg
theorem Fy [Flo](v:Vpc)(sub id:Int)(hl:v.subs.length<=9223372036854775807)(hf:∀s∈v.subs,s.faces.length<=9223372036854775807):ai prog 175 [.agg (au v),.v (.int .i64 sub),.v (.int .i64 id)] (.tup [.agg (au (d6 v sub id).1),.v (.int .i64 (d6 v sub id).2)]):=by
 obtain⟨R,hR⟩:∃R,R=d6 v sub id:=⟨_,rfl⟩;rw[<-hR];replace hR:=Xi hR;have bo:=ic v hl hf;clear hl hf;by_cases hc:bM v=0
 ·have hk:=be hc;have LO:=hk.n4;have F8:=hk.n6;have dh:=wE v sub aa;unfold cq at dh
  have aR:=hR.out;unfold d6 at aR;rw[af (by simpa using hc)]at aR;rw[hc]at bo;clear hR hc;have Ac:decide ((-1:Int) < 0)=true:=rfl;cases hf:v.subs.findIdx? (fun s=>s.id==sub)with
  |none=>
   rw[hf]at dh aR;simp only at dh aR;rw[aR];replace aR:=Xi aR;clear hk hf;refine pj func175 ntmps175 results175 ?_;refine aq ?_<;>intros;all_goals exact dg
  |some i=>
   obtain⟨pre,s,post,hv,gz,-,hs⟩:=gk hf;have jb:=hk.n8 s (Xk hs);have iE:=OW v pre post s hv hk.n4 hk.n6 hk.n8;have j1:=yP s id aa;unfold cq at j1;have mC:decide ((i:Int) < 0)=false:=ak;have rS:v.subs.length=pre.length+1+post.length:=by rw[hv];simp;omega
   rw[hf]at dh aR;simp only[hs]at dh aR;clear hk hf;cases hg:s.faces.findIdx? (fun f=>f.id==id)with
   |none=>
    rw[hg]at j1 aR;simp only at j1 aR;rw[aR];replace aR:=Xi aR;clear iE;replace hv:=Xi hv;clear hg gz rS;refine pj func175 ntmps175 results175 ?_;refine aq ?_<;>intros;all_goals exact dg
   |some k=>
    have wF:k < s.faces.length:=(XK.1 hg).1;rw[hg]at j1 aR;simp only at j1 aR;rw[show v.subs.set i {s with faces:=s.faces.eraseIdx k}=pre++{s with faces:=s.faces.eraseIdx k}::post by
     rw[hv,<-gz,Yu _ _ (XA _),YE,XT]]at aR
    have hk0:decide ((k:Int) < 0)=false:=ak;have cX:=wi k aa;have bG:¬ab (s.faces.map bR)=[]:=a4R
    have pZ:=Fw (enc:=bR) wF;have nS:=Fx (enc:=bR) wF;have SI:0 < s.faces.length:=aa;have FQ:min (s.faces.length - (k+1)) (s.faces.length - (k+1))=s.faces.length - (k+1):=Zt _;have hlt:k+(s.faces.length - (k+1))<=s.faces.length:=aa;rw[aR];replace aR:=Xi aR;replace hv:=Xi hv;subst gz;clear hg;refine pj func175 ntmps175 results175 ?_;have z1z:=@ct.eq_1;have z2z:=@Xo.{0};have z3z:=@XO.{0};have z4z:=Ln.mk (ls:=[]) (iE);refine fl ?_ ?_ ?_ ?_ ?_ ?_ ?_ ?_<;>first|(with_reducible exact True.intro)|intros
    all_goals(first|omega|(simp only[au,aT,Xn,Xl];exact dg))
 ·have h1:(bM v !=0)=true:=by simpa using hc
  have hr:R=(Vpc.zero,bM v):=by rw[hR.out];unfold d6;rw[ah hc]
  rw[hr];replace hr:=Xi hr;clear hR;refine pj func175 ntmps175 results175 ?_;refine aq ?_<;>intros;exact dg
theorem OX [Flo](v:Vpc)(id:Int)(p:Pfx)(hl:v.subs.length<=9223372036854775807)(hf:∀s∈v.subs,s.faces.length<=9223372036854775807):ai prog 171 [.agg (au v),.v (.int .i64 id),.agg (aS p)] (.tup [.agg (au (oW v id p).1),.v (.int .i64 (oW v id p).2)]):=by
 obtain⟨R,hR⟩:∃R,R=oW v id p:=⟨_,rfl⟩;rw[<-hR];replace hR:=Xi hR;have bo:=ic v hl hf;clear hl hf;by_cases hc:bM v=0
 ·have hk:=be hc;have LO:=hk.n4;have F8:=hk.n6;have iE:=yD v hk.n4 hk.n6 hk.n8;have hw:ai prog 75 [.v (.int .i64 id),.v (.int .i64 1),.v (.int .i64 65536)] (.v (.bool (cD id))):=gI _ _ _;have Ps:=A0 v p aa;have aR:R=if mc v id p≠0 then (Vpc.zero,mc v id p)else ({v with subs:=dn (·.id) ⟨id,p,[]⟩ v.subs},0):=by rw[hR.out];unfold oW;rw[af (by simpa using hc)]
  unfold mc at aR;replace aR:=Xi aR;rw[hc]at bo;clear hR hc hk;cases b1:cD id with
  |false=>
   have hr:R=(Vpc.zero,3):=by rw[aR.out];simp[b1]
   rw[b1]at hw;rw[hr];replace hr:=Xi hr;refine pj func171 ntmps171 results171 ?_;refine aq ?_<;>intros;all_goals exact dg
  |true=>
  rw[b1]at hw;cases b2:fW v p with
  |false=>
   have hr:R=(Vpc.zero,3):=by rw[aR.out];simp[b2]
   rw[b2]at Ps;rw[hr];replace hr:=Xi hr;refine pj func171 ntmps171 results171 ?_;refine aq ?_<;>intros;all_goals exact dg
  |true=>
  rw[b2]at Ps;have gn:R=if (v.subs.any fun s=>(s.id==id)||s.at_.meets p)=true then (Vpc.zero,6)else if v.subs.length=6 then (Vpc.zero,2)else ({v with subs:=dn (·.id) ⟨id,p,[]⟩ v.subs},0):=by
   rw[aR.out,b1,b2];cases(v.subs.any fun s=>(s.id==id)||s.at_.meets p)
   ·by_cases h:v.subs.length=6<;>simp[h]
   ·simp
  replace gn:=Xi gn;clear aR;refine pj func171 ntmps171 results171 ?_;have z1z:=Ln.mk (ls:=[]) (iE);refine aq ?_<;>intros;clear iE bo hw Ps;refine bL ag am (fun m e h=>∃(k g:Nat) (out:List Sbn) (f:Bool),k<=v.subs.length/\wb (fun s:Sbn=>s.id) ⟨id,p,[]⟩ v.subs k out f/\(v.subs.take k).all (fun s=>!((s.id==id)||s.at_.meets p))=true/\m=v.subs.length - k/\
   e=[(12,.d (.v (.int .i64 k))),(11,.d (.v (.bool f))),(10,.own 7 v.subs.length),(9,.ptr 8 0),(7,.d (.v (.int .i64 0))),(6,.ptr 2 0),(5,.ptr 1 0),(3,.ptr 0 0),(1,.d (.v (.int .i64 id)))]/\h=[.box 55 ((au v).map .d),.box 32 ((aS p).map .d),.box 55 [.d (.v (.int .i64 0)),.d (.v (.slice none 0 0)),.d (.v (.slice none 0 0))],.gone,.gone,.row 58 3 1 (ab (v.ranges.map bp)),.gone,.row 71 4 v.subs.length (ab (v.subs.map aT)),.box 55 [.d (.v (.int .i64 v.id)),.own 5 1,.own 9 g],.row 71 4 g (ab (out.map aT))]) _ _ _ ⟨0,0,[],false,XE _,Hs,rfl,rfl,rfl,rfl⟩ ?_ ?_
  ·refine(ax ak 8 55 [.d (.v (.int .i64 v.id)),.own 5 1,.d (.v (.slice none 0 0))] 2 71 4 rfl rfl rfl).trans ?_;exact wf
  ·rintro m e h ⟨k,g,out,f,hk,fQ,bO,hm,rfl,rfl⟩ C hC;replace hm:=Xi hm;replace bO:=Xi bO;have o4:=fQ.1;replace fQ:=Xi fQ;have qq:out.length<=7:=aa;have jQ:(out.length+1)*48<=140737488355328:=by clear o4 hk LO F8;omega
   have jT:(out.length+1+1)*48<=140737488355328:=by clear o4 hk LO F8 jQ;omega
   by_cases hlt:k < v.subs.length
   ·have dF:(k:Int) < (v.subs.length:Int):=aa;have cX:=wi k aa;obtain⟨y,hy⟩:∃y,v.subs[k]? =some y:=⟨_,Xj hlt⟩;have HT:=Xk hy;have o0:=rl y.at_ p;rw[fI]at o0;cases b5:(y.id==id)with
    |true=>
     have hr:R=(Vpc.zero,6):=by rw[gn.out,ah (XR.2 ⟨y,HT,by rw[b5];rfl⟩)]
     rw[hr];replace hr:=Xi hr;refine aq ?_<;>intros;all_goals exact dg
    |false=>
    cases b3:y.at_.meets p with
    |true=>
     have hr:R=(Vpc.zero,6):=by rw[gn.out,ah (XR.2 ⟨y,HT,by rw[b3];simp⟩)]
     rw[b3]at o0;rw[hr];replace hr:=Xi hr;refine aq ?_<;>intros;all_goals exact dg
    |false=>
     rw[b3]at o0;have bG:y.id≠id:=by simpa using b5
     have mn:=en (p:=fun s:Sbn=>!((s.id==id)||s.at_.meets p)) hy bO.out (by rw[b3,b5];rfl);replace mn:=Xi mn;replace bG:=Xi bG;replace HT:=Xi HT;cases f with
     |true=>
      have FY:=Xi (Ht fQ.out hy);refine aq ?_<;>intros;refine hC _ _ _ _ _ ?_ ⟨k+1,g+1,out++[y],true,hlt,FY.out,mn.out,rfl,rfl,rfl⟩ (wf (hh:=(by simp only[au,aT,Xn,Xl,Xp,<-aI];rfl)));have:=hm.out;omega
     |false=>
      cases b4:decide (y.id>id)with
      |true=>
       have FY:=Xi (Hu fQ.out hy (of_decide_eq_true b4));refine aq ?_<;>intros;refine hC _ _ _ _ _ ?_ ⟨k+1,g+1+1,out++[⟨id,p,[]⟩]++[y],true,hlt,FY.out,mn.out,rfl,rfl,rfl⟩ ((vg 9 rfl ak (rows':=ab ((out++[(⟨id,p,[]⟩:Sbn)]++[y]).map aT)) (by(try rw[aI]);simp only[Xn,Xl,Xp,X3,X5,X8];exact sv dg) (lK (fun _=>rfl) _)).trans (wf));have:=hm.out;omega
      |false=>
       have FY:=Xi (Hv fQ.out hy (by have:=bG.out;have:=of_decide_eq_false b4;show y.id < id;omega));refine aq ?_<;>intros;refine hC _ _ _ _ _ ?_ ⟨k+1,g+1,out++[y],false,hlt,FY.out,mn.out,rfl,rfl,rfl⟩ (wf (hh:=(by simp only[au,aT,Xn,Xl,Xp,<-aI];rfl)));have:=hm.out;omega
   ·obtain rfl:k=v.subs.length:=aa;have bQ:(v.subs.any fun s=>(s.id==id)||s.at_.meets p)=false:=a3Y
    have kW:R=if v.subs.length=6 then (Vpc.zero,2)else ({v with subs:=dn (·.id) ⟨id,p,[]⟩ v.subs},0):=by rw[gn.out,af (by simp[bQ])]
    clear gn bQ hC;cases f with
    |true=>
     have he:=CC fQ.out;have lI:out.length=v.subs.length+1:=by rw[he,fK]
     rw[<-he]at kW;replace he:=Xi he;by_cases h4:v.subs.length=6
     ·rw[ah h4]at kW;have hd:decide ((out.length:Int)>6)=true:=aN;rw[kW];replace kW:=Xi kW;replace lI:=Xi lI;replace h4:=Xi h4;refine aq ?_<;>intros;all_goals exact dg
     ·rw[af h4]at kW;have hd:decide ((out.length:Int)>6)=false:=aN;rw[kW];replace kW:=Xi kW;replace lI:=Xi lI;exact aY;all_goals exact dg
    |false=>
     have he:=CD fQ.out;have lI:out.length+1=v.subs.length+1:=by have h:=congrArg Zm he;rw[fK]at h;simpa using h
     rw[<-he]at kW;replace he:=Xi he;by_cases h4:v.subs.length=6
     ·rw[ah h4]at kW;have hd:decide (((out.length+1:Nat):Int)>6)=true:=aN;rw[kW];replace kW:=Xi kW;replace lI:=Xi lI;replace h4:=Xi h4;refine aq ?_<;>intros;all_goals exact dg
     ·rw[af h4]at kW;have hd:decide (((out.length+1:Nat):Int)>6)=false:=aN;rw[kW];replace kW:=Xi kW;replace lI:=Xi lI;refine aq ?_<;>intros;all_goals
       simp only[au,Xn,Xl,Xp];exact aO.tup ⟨aO.agg ⟨aO.refl _,aO.refl _,aO.sl (I6 dg) (by intro r hr d hd;obtain⟨x,-,rfl⟩:=XF.1 (by have h:r∈(out++[(⟨id,p,[]⟩:Sbn)]).map aT:=(by rw[Xn];exact hr);exact h);exact XD.1 (show (aT x).all D.one=true from rfl) d hd),trivial⟩ rfl,aO.refl _,trivial⟩
 ·have h1:(bM v !=0)=true:=by simpa using hc
  have hr:R=(Vpc.zero,bM v):=by rw[hR.out];unfold oW;rw[ah hc]
  rw[hr];replace hr:=Xi hr;clear hR;refine pj func171 ntmps171 results171 ?_;refine aq ?_<;>intros;exact dg
theorem Lq [Flo](v:Vpc)(sub id:Int)(hl:v.subs.length<=9223372036854775807)(hf:∀s∈v.subs,s.faces.length<=9223372036854775807):ai prog 174 [.agg (au v),.v (.int .i64 sub),.v (.int .i64 id)] (.tup [.agg (au (gP v sub id).1),.v (.int .i64 (gP v sub id).2.1),.v (.int .i64 (gP v sub id).2.2)]):=by
 obtain⟨R,hR⟩:∃R,R=gP v sub id:=⟨_,rfl⟩;rw[<-hR];replace hR:=Xi hR;have bo:=ic v hl hf;clear hl hf;by_cases hc:bM v=0
 ·have hk:=be hc;have LO:=hk.n4;have F8:=hk.n6;have dh:=wE v sub aa;unfold cq at dh
  have aR:=hR.out;unfold gP at aR;rw[af (by simpa using hc)]at aR;rw[hc]at bo;clear hR hc;have Ac:decide ((-1:Int) < 0)=true:=rfl;cases hf:v.subs.findIdx? (fun s=>s.id==sub)with
  |none=>
   rw[hf]at dh aR;simp only at dh aR;rw[aR];replace aR:=Xi aR;clear hk hf;refine pj func174 ntmps174 results174 ?_;refine aq ?_<;>intros;all_goals exact dg
  |some i=>
   obtain⟨pre,s,post,hv,gz,-,hs⟩:=gk hf;have mQ:=Xk hs;have jb:=hk.n8 s mQ;obtain⟨s1,s2,s3,s4⟩:=qj hk mQ;have hle:=Fv s jb.1 jb.2 s1;have j1:=yP s id aa;unfold cq at j1;have mC:decide ((i:Int) < 0)=false:=ak;have rS:v.subs.length=pre.length+1+post.length:=by rw[hv];simp;omega
   rw[hf]at dh aR;simp only[hs]at dh aR;clear hf;cases hg:s.faces.findIdx? (fun f=>f.id==id)with
   |none=>
    rw[hg]at j1 aR;simp only at j1 aR;rw[aR];replace aR:=Xi aR;clear hk hg hv gz rS hle;refine pj func174 ntmps174 results174 ?_;refine aq ?_<;>intros;all_goals exact dg
   |some k=>
    obtain⟨preF,f,postF,Ap,Df,-,oK⟩:=gk hg;have FJ:=Xk oK;have iE:=UN v pre post s preF postF f hv Ap hk.n4 hk.n6 hk.n8;have ip:=jb.2 f FJ;have Vu:s.faces.length=preF.length+1+postF.length:=by rw[Ap];simp;omega
    have hk0:decide ((k:Int) < 0)=false:=ak;rw[hg]at j1 aR;simp only[oK]at j1 aR;by_cases h4:f.addrs.length=4
    ·rw[ah h4]at aR;have hd:decide ((f.addrs.length:Int)>=4)=true:=aN;rw[aR];replace aR:=Xi aR;replace h4:=Xi h4;clear hk hg hv gz rS iE Ap Df Vu;refine pj func174 ntmps174 results174 ?_;refine aq ?_<;>intros;all_goals exact dg
    ·rw[af h4]at aR;have hd:decide ((f.addrs.length:Int)>=4)=false:=aN;cases hl:eT s with
     |none=>
      rw[hl]at aR hle;simp only[Option.getD_none]at aR hle;rw[aR];replace aR:=Xi aR;clear hk hg hv gz rS iE Ap Df Vu hl;refine pj func174 ntmps174 results174 ?_;refine aq ?_<;>intros;all_goals exact dg
     |some a=>
      rw[hl]at aR hle;simp only[YD]at aR hle;have lI:=rF (show gj _ _ _ _=some a from hl);have hae:0<=a:=by
       have h1:=Cu lI.2;obtain⟨-,-,r3,-,-⟩:=s.at_.bd h1.1;omega
      have ha0:decide (a < 0)=false:=by simpa using hae
      have P9:a∉f.addrs:=fun h=>lI.1 (Z3.2 ⟨f,FJ,h⟩);have wm:f.addrs.Pairwise fun x y=>x < y:=a4n
      have gn:R=({v with subs:=pre++{s with faces:=preF++{f with addrs:=dn (fun x=>x) a f.addrs}::postF}::post},a,0):=by
       rw[aR];rw[hv,<-gz,Yu _ _ (XA _),YE,XT];rw[Ap,<-Df,Yu _ _ (XA _),YE,XT]
      have jQ:(f.addrs.length+1)*8<=140737488355328:=aa;have hwl:IntKind.i64.wrap (((f.addrs.length+1:Nat):Int) - 1)=(f.addrs.length:Int):=by rw[IntKind.wrap_i64];omega
      replace gn:=Xi gn;replace P9:=Xi P9;replace wm:=Xi wm;replace hv:=Xi hv;replace Ap:=Xi Ap;clear aR lI hl hk hg s2 s3 s4;subst gz;subst Df;refine pj func174 ntmps174 results174 ?_;have z1z:=@ct.eq_1;have z2z:=@ek.eq_1;have z3z:=Ln.mk (ls:=[]) (iE);refine aq ?_<;>intros;clear bo dh j1 hle iE;refine bL ag am (fun m e h=>∃(q:Nat) (out:List Int),CE (fun x:Int=>x) a f.addrs q out/\out.length=f.addrs.length+1/\m=q/\e=[(15,.d (.v (.int .i64 q))),(14,.own 10 2),(13,.ptr 11 0),(12,.d (.v (.int .i64 a))),(11,.d (.v (.int .i64 preF.length))),(10,.d (.v (.int .i64 pre.length))),(6,.ptr 1 0)]/\h=[.box 55 ((au v).map .d),.box 55 [.d (.v (.int .i64 0)),.d (.v (.slice none 0 0)),.d (.v (.slice none 0 0))],.gone,.gone,.row 58 3 1 (ab (v.ranges.map bp)),.gone,.row 71 4 (pre.length+1+post.length) (fu aT pre (ct s (.own 8 (preF.length+1+postF.length))) post),.gone,.row 74 2 (preF.length+1+postF.length) (fu bR preF (ek f (.own 10 1)) postF),.gone,.row 3 1 2 (ab (out.map cm)),.box 55 [.d (.v (.int .i64 v.id)),.own 4 1,.own 6 (pre.length+1+post.length)]]) _ _ _ ⟨f.addrs.length,f.addrs++[a],OK,by simp,rfl,rfl,rfl⟩ (wf (hh:=(by rw[Xn];rfl)) (hb:=cH) (hbh:=cH)) ?_;rintro m e h ⟨q,out,vR,o4,hm,rfl,rfl⟩ C hC;have uL:=vR.1;have hx:=OL vR;replace vR:=Xi vR;replace hm:=Xi hm;by_cases h0:0 < q
      ·have VC:decide ((q:Int)>0)=true:=aN;obtain⟨y,hy⟩:∃y,f.addrs[q - 1]? =some y:=⟨_,Xj aa⟩;have P5:=OM vR.out h0 hy;have CZ:IntKind.i64.wrap ((q:Int) - 1)=((q - 1:Nat):Int):=by rw[IntKind.wrap_i64];omega
       have qz:q < out.length:=aa;have hq3:q - 1 < out.length:=aa;replace o4:=Xi o4;replace h0:=Xi h0;replace hy:=Xi hy;cases b5:decide (y>a)with
       |true=>
        have jT:=ON vR.out h0.out hy.out (of_decide_eq_true b5);replace jT:=Xi jT;have PL:∀X:List PV,((ab (out.map cm)).set (q - 1) X)[q]? =some [.d (.v (.int .i64 a))]:=fun X=>by
         rw[C' (by have:=h0.out;omega),iu,Xr,hx];rfl
        have z1z:=@ct.eq_1;have z2z:=@ek.eq_1;refine aq ?_<;>intros;refine hC _ _ _ _ _ ?_ ⟨q - 1,(out.set (q - 1) a).set q y,jT.out,by rw[YS,YS];exact o4.out,rfl,rfl,rfl⟩ (wf (hh:=(by simp only[ZU,ab];rfl)) (hb:=cH) (hbh:=cH));have:=hm.out;have:=h0.out;omega
       |false=>
        have he:=Bs vR.out wm.out (fun z _ hz=>by
         rw[hy.out]at hz;rw[<-XU.inj hz];have h1:y≠a:=fun e=>P9.out (e ▸ Xk hy.out);have h2:=of_decide_eq_false b5;show y < a;omega)
        rw[<-he]at gn;have kW:=gn.out;rw[kW];replace kW:=Xi kW;replace he:=Xi he;have z1z:=@ct.eq_1;have z2z:=@ek.eq_1;refine aq ?_<;>intros;all_goals(first|omega|(simp only[au,aT,bR,Xn,Xl];exact dg))
      ·have VC:decide ((q:Int)>0)=false:=aN;have he:=Bs vR.out wm.out (fun z h _=>absurd h h0);rw[<-he]at gn;have kW:=gn.out;rw[kW];replace kW:=Xi kW;replace he:=Xi he;replace h0:=Xi h0;have qz:q < out.length:=aa;replace o4:=Xi o4;have z1z:=@ct.eq_1;have z2z:=@ek.eq_1;refine aq ?_<;>intros;all_goals(first|omega|(simp only[au,aT,bR,Xn,Xl];exact dg))
 ·have h1:(bM v !=0)=true:=by simpa using hc
  have hr:R=(Vpc.zero,0,bM v):=by rw[hR.out];unfold gP;rw[ah hc]
  rw[hr];replace hr:=Xi hr;clear hR;refine pj func174 ntmps174 results174 ?_;refine aq ?_<;>intros;exact dg
def tq (b:Bok)(vs:List Vpc)(c:Cmd):Bok × Ans:=
 if c.op=1 then ((gx b c.a c.at_ c.rule).1,.er (gx b c.a c.at_ c.rule).2)
 else if c.op=2 then ((gy b c.a c.b c.c c.rule).1,⟨(gy b c.a c.b c.c c.rule).2.2,(gy b c.a c.b c.c c.rule).2.1,0⟩)
 else if c.op=3 then ((fM b c.a).1,.er (fM b c.a).2)
 else if c.op=4 then ((jJ b c.a).1,.er (jJ b c.a).2)
 else if c.op=5 then if ig vs c.c then (⟨0,[]⟩,.er 6)else ((cQ b c.a c.b c.c).1,⟨(cQ b c.a c.b c.c).2.2,(cQ b c.a c.b c.c).2.1,0⟩)
 else if (vs.any fun v=>v.ranges.any fun x=>decide (x=⟨c.at_,c.a⟩))=true then (⟨0,[]⟩,.er 9)else ((fL b c.a c.at_).1,.er (fL b c.a c.at_).2)
theorem OY [Flo](s:Ste)(c:Cmd)(hz:∀p∈s.book.pools,p.leases.length<=3518437208882)(h6:s.net.vpcs.length<=6)(h4:∀v∈s.net.vpcs,v.ranges.length<=1000000000):
 ai prog 76 [.agg (bJ s),.agg (jp c)] (.tup [.agg (bj (tq s.book s.net.vpcs c).1),.agg (eG (tq s.book s.net.vpcs c).2)]):=by
 have h6x:=h6;unfold tq;by_cases h1:c.op=1
 ·rw[ah h1];have hp:=Ou s.book c.a c.at_ c.rule hz;generalize gx s.book c.a c.at_ c.rule=R at*;replace hz:=Xi hz;replace h4:=Xi h4;refine pj func76 ntmps76 results76 ?_;first|exact aY|(refine aq ?_;exact dz)
 rw[af h1];by_cases h2:c.op=2
 ·rw[ah h2];have hp:=Ox s.book c.a c.b c.c c.rule hz;generalize gy s.book c.a c.b c.c c.rule=R at*;clear h1;replace hz:=Xi hz;replace h4:=Xi h4;refine pj func76 ntmps76 results76 ?_;first|exact aY|(refine aq ?_;exact dz)
 rw[af h2];by_cases h3:c.op=3
 ·rw[ah h3];have hp:=KX s.book c.a hz;generalize fM s.book c.a=R at*;clear h1 h2;replace hz:=Xi hz;replace h4:=Xi h4;refine pj func76 ntmps76 results76 ?_;first|exact aY|(refine aq ?_;exact dz)
 rw[af h3];by_cases h4':c.op=4
 ·rw[ah h4'];have hp:=OA s.book c.a hz;generalize jJ s.book c.a=R at*;clear h1 h2 h3;replace hz:=Xi hz;replace h4:=Xi h4;refine pj func76 ntmps76 results76 ?_;first|exact aY|(refine aq ?_;exact dz)
 rw[af h4'];by_cases h5:c.op=5
 ·rw[ah h5];have S1:=iB s.net c.c aa;have hp:=E2 s.book c.a c.b c.c hz;have SX:=gp (fun v:Vpc=>v.id==c.c) s.net.vpcs;generalize cQ s.book c.a c.b c.c=R at*;unfold ig;clear h1 h2 h3 h4';cases hb:s.net.vpcs.any fun v=>v.id==c.c
  ·rw[hb]at SX;replace hb:=Xi hb;replace hz:=Xi hz;replace h4:=Xi h4;refine pj func76 ntmps76 results76 ?_;first|exact aY|(refine aq ?_;exact dz)
  ·rw[hb]at SX;replace hb:=Xi hb;clear hp;replace hz:=Xi hz;replace h4:=Xi h4;refine pj func76 ntmps76 results76 ?_;first|exact aY|(refine aq ?_;exact dz)
 rw[af h5];have e1:(c.op==1)=false:=by simpa using h1
 have e2:(c.op==2)=false:=by simpa using h2
 have e3:(c.op==3)=false:=by simpa using h3
 have e4:(c.op==4)=false:=by simpa using h4'
 have e5:(c.op==5)=false:=by simpa using h5
 have Ps:=Ll s.net ⟨c.at_,c.a⟩ aa h4;have hp:=E3 s.book c.a c.at_ hz;generalize fL s.book c.a c.at_=R at*;clear h1 h2 h3 h4' h5;cases hb:s.net.vpcs.any fun v=>v.ranges.any fun x=>decide (x=⟨c.at_,c.a⟩)
 ·rw[hb]at Ps;replace hb:=Xi hb;replace hz:=Xi hz;replace h4:=Xi h4;refine pj func76 ntmps76 results76 ?_;first|exact aY|(refine aq ?_;exact dz)
 ·rw[hb]at Ps;replace hb:=Xi hb;clear hp;replace hz:=Xi hz;replace h4:=Xi h4;refine pj func76 ntmps76 results76 ?_;first|exact aY|(refine aq ?_;exact dz)
def HF (v:Vpc)(c:Cmd):Vpc × Ans:=
 if c.op=10 then ((oW v c.b c.at_).1,.er (oW v c.b c.at_).2)
 else if c.op=11 then ((fO v c.b).1,.er (fO v c.b).2)
 else if c.op=12 then ((ik v c.b c.c).1,⟨(ik v c.b c.c).2.2,⟨0,0⟩,(ik v c.b c.c).2.1⟩)
 else if c.op=13 then ((gP v c.b c.c).1,⟨(gP v c.b c.c).2.2,⟨0,0⟩,(gP v c.b c.c).2.1⟩)
 else ((d6 v c.b c.c).1,.er (d6 v c.b c.c).2)
theorem Sc [Flo](v:Vpc)(c:Cmd)(h6:v.subs.length<=9223372036854775807)(h8:∀s∈v.subs,s.faces.length<=9223372036854775807):
 ai prog 85 [.agg (au v),.agg (jp c)] (.tup [.agg (au (HF v c).1),.agg (eG (HF v c).2)]):=by
 unfold HF;by_cases h1:c.op=10
 ·rw[ah h1];have hp:=OX v c.b c.at_ h6 h8;generalize oW v c.b c.at_=R at*;replace h8:=Xi h8;refine pj func85 ntmps85 results85 ?_;first|exact aY|(refine aq ?_;exact dz)
 rw[af h1];by_cases h2:c.op=11
 ·rw[ah h2];have hp:=HE v c.b h6 h8;generalize fO v c.b=R at*;clear h1;replace h8:=Xi h8;refine pj func85 ntmps85 results85 ?_;first|exact aY|(refine aq ?_;exact dz)
 rw[af h2];by_cases h3:c.op=12
 ·rw[ah h3];have hp:=Lp v c.b c.c h6 h8;generalize ik v c.b c.c=R at*;clear h1 h2;replace h8:=Xi h8;refine pj func85 ntmps85 results85 ?_;first|exact aY|(refine aq ?_;exact dz)
 rw[af h3];by_cases h4:c.op=13
 ·rw[ah h4];have hp:=Lq v c.b c.c h6 h8;generalize gP v c.b c.c=R at*;clear h1 h2 h3;replace h8:=Xi h8;refine pj func85 ntmps85 results85 ?_;first|exact aY|(refine aq ?_;exact dz)
 rw[af h4];have e1:(c.op==10)=false:=by simpa using h1
 have e2:(c.op==11)=false:=by simpa using h2
 have e3:(c.op==12)=false:=by simpa using h3
 have e4:(c.op==13)=false:=by simpa using h4
 have hp:=Fy v c.b c.c h6 h8;generalize d6 v c.b c.c=R at*;clear h1 h2 h3 h4;replace h8:=Xi h8;refine pj func85 ntmps85 results85 ?_;first|exact aY|(refine aq ?_;exact dz)
theorem Ls {l:List Rng}{p:Pfx}(h:l.findIdx? (fun r=>decide (r.at_=p))=none):l.filter (fun r=>decide (r.at_=p))=[]:=by
 rw[Zp];intro x hx;have:=Yn.1 h x hx;simp[this]
theorem Lt {l:List Rng}{p:Pfx}{i:Nat}{z:Rng}(hs:l.Pairwise fun a b=>a.at_.at_ < b.at_.at_)(h:l.findIdx? (fun r=>decide (r.at_=p))=some i)(hz:l[i]? =some z):l.filter (fun r=>decide (r.at_=p))=[z]/\l.filter (fun r=>!decide (r.at_=p))=l.eraseIdx i:=by
 obtain⟨pre,x,post,hl,gz,hp,hx⟩:=gk h;rw[hz]at hx;obtain rfl:=XU.inj hx;have Ji:z.at_=p:=of_decide_eq_true hp;subst hl;subst gz;rw[YQ,YA]at hs;have h1:∀a∈pre,¬a.at_=p:=fun a ha e=>by
  have:=hs.2.2 a ha z ak;rw[e,Ji]at this;omega
 have h2:∀a∈post,¬a.at_=p:=fun a ha e=>by
  have:=hs.2.1.1 a ha;rw[e,Ji]at this;omega
 have e1:pre.filter (fun r=>decide (r.at_=p))=[]:=Zp.2 fun a ha=>by simp[h1 a ha]
 have e2:post.filter (fun r=>decide (r.at_=p))=[]:=Zp.2 fun a ha=>by simp[h2 a ha]
 have e3:pre.filter (fun r=>!decide (r.at_=p))=pre:=YY.2 fun a ha=>by simp[h1 a ha]
 have e4:post.filter (fun r=>!decide (r.at_=p))=post:=YY.2 fun a ha=>by simp[h2 a ha]
 constructor
 ·rw[YT,Zw,ah hp,e1,e2];rfl
 ·rw[YT,Zw,af (by simp[hp]),e3,e4,List.eraseIdx_append_of_length_le (XA _)];simp
theorem Lu [Flo](v:Vpc)(p:Pfx)(hl:v.subs.length<=9223372036854775807)(hf:∀s∈v.subs,s.faces.length<=9223372036854775807):ai prog 83 [.agg (au v),.agg (aS p)] (.tup [.agg (au (dU v p).1),.agg (bp (dU v p).2.1),.v (.int .i64 (dU v p).2.2)]):=by
 obtain⟨R,hR⟩:∃R,R=dU v p:=⟨_,rfl⟩;rw[<-hR];replace hR:=Xi hR;have bo:=ic v hl hf;clear hl hf;by_cases hc:bM v=0
 ·have hk:=be hc;have LO:=hk.n4;have F8:=hk.n6;have iE:=yD v hk.n4 hk.n6 hk.n8;have aR:=hR.out;unfold dU at aR;rw[af (by simpa using hc)]at aR;replace aR:=Xi aR;rw[hc]at bo;have oR:=Xi hk.rr;have hkr:=Xi hk.ranges;clear hR hc hk;refine pj func83 ntmps83 results83 ?_;have z1z:=Ln.mk (ls:=[]) (iE);refine aq ?_<;>intros;clear iE bo;refine bL ag am (fun m e h=>∃(k g:Nat) (out:List Rng) (x:Rng),k<=v.ranges.length/\out.length<=k/\out=(v.ranges.take k).filter (fun r=>!decide (r.at_=p))/\x=((v.ranges.take k).filter (fun r=>decide (r.at_=p))).getLastD Rng.zero/\m=v.ranges.length - k/\
   e=[(10,.d (.v (.int .i64 k))),(9,.ptr 10 0),(8,.ptr 9 0),(6,.d (.v (.int .i64 0))),(5,.ptr 3 0),(4,.ptr 2 0),(3,.ptr 1 0),(2,.ptr 0 0)]/\h=[.box 55 ((au v).map .d),.box 32 ((aS p).map .d),.box 55 [.d (.v (.int .i64 0)),.d (.v (.slice none 0 0)),.d (.v (.slice none 0 0))],.box 58 ((bp Rng.zero).map .d),.gone,.gone,.row 58 3 1 (ab (v.ranges.map bp)),.gone,.row 71 4 v.subs.length (ab (v.subs.map aT)),.box 55 [.d (.v (.int .i64 v.id)),.own 11 g,.own 8 v.subs.length],.box 58 ((bp x).map .d),.row 58 3 g (ab (out.map bp))]) _ _ _ ⟨0,0,[],Rng.zero,XE _,XE _,rfl,rfl,rfl,rfl,rfl⟩ ?_ ?_
  ·refine(ax ak 9 55 [.d (.v (.int .i64 v.id)),.d (.v (.slice none 0 0)),.own 8 v.subs.length] 1 58 3 rfl rfl rfl).trans ?_;exact wf
  ·rintro m e h ⟨k,g,out,x,hk,o4,zj,hx,hm,rfl,rfl⟩ C hC;replace hm:=Xi hm;replace zj:=Xi zj;replace hx:=Xi hx;have qq:out.length<=4:=aa;have jQ:(out.length+1)*24<=140737488355328:=by clear o4 hk LO;omega
   by_cases hlt:k < v.ranges.length
   ·have dF:(k:Int) < (v.ranges.length:Int):=aa;have cX:=wi k aa;obtain⟨y,hy⟩:∃y,v.ranges[k]? =some y:=⟨_,Xj hlt⟩;have he:=yg y.at_ p;have f1:=uG (f:=fun r:Rng=>!decide (r.at_=p)) hy;have f2:=uG (f:=fun r:Rng=>decide (r.at_=p)) hy;cases b3:decide (y.at_=p)with
    |true=>
     rw[b3]at he;simp only[b3,Z7,Yz,if_false,if_true]at f1 f2;replace f1:=Xi f1;replace f2:=Xi f2;replace b3:=Xi b3;refine aq ?_<;>intros;refine hC _ _ _ _ _ ?_ ⟨k+1,g,out,y,hlt,by omega,by rw[zj.out,f1.out],by rw[f2.out];simp,rfl,rfl,rfl⟩ (wf (hh:=(by simp only[au,bp,Xn,Xl,Xp,<-aI];rfl)));have:=hm.out;omega
    |false=>
     rw[b3]at he;simp only[b3,Bool.not_false,Yz,if_false,if_true]at f1 f2;replace f1:=Xi f1;replace f2:=Xi f2;replace b3:=Xi b3;refine aq ?_<;>intros;refine hC _ _ _ _ _ ?_ ⟨k+1,g+1,out++[y],x,hlt,by simp;omega,by rw[zj.out,f1.out],by rw[f2.out,hx.out],rfl,rfl,rfl⟩ (wf (hh:=(by simp only[au,bp,Xn,Xl,Xp,<-aI];rfl)));have:=hm.out;omega
   ·obtain rfl:k=v.ranges.length:=aa;have zj:=zj.out;have hx:=hx.out;rw[Xq]at zj hx;clear hC;have gn:=aR.out;cases hf:v.ranges.findIdx? (fun r=>decide (r.at_=p))with
    |none=>
     rw[hf]at gn;simp only at gn;rw[Ls hf]at hx;have hp0:x.pool=0:=by rw[hx];rfl
     rw[gn];replace gn:=Xi gn;replace hx:=Xi hx;replace zj:=Xi zj;clear hf;refine aq ?_<;>intros;all_goals exact dg
    |some i=>
     obtain⟨z,hz⟩:∃z,v.ranges[i]? =some z:=⟨_,Xj (XK.1 hf).1⟩;obtain⟨e1,e2⟩:=Lt oR.out hf hz;rw[hf]at gn;simp only[XJ,hz,YD,<-e2,<-zj]at gn;rw[e1]at hx;obtain rfl:x=z:=hx;have hp0:(x.pool==0)=false:=by
      have:=hkr.out x (Xk hz);unfold eR cD at this;simp only[Xv,decide_eq_true_eq]at this;simp;omega
     replace gn:=Xi gn;clear zj e1 e2 hz hf;refine aq ?_<;>intros;refine bq ag am v.subs (fun j=>(v.subs.take j).all (fun s=>!(dS s.at_ p))=true) (fun j=>[(11,.d (.v (.int .i64 j))),(9,.ptr 10 0),(8,.ptr 9 0),(6,.d (.v (.int .i64 0))),(5,.ptr 3 0),(4,.ptr 2 0),(3,.ptr 1 0),(2,.ptr 0 0)]) (fun _=>[.box 55 ((au v).map .d),.box 32 ((aS p).map .d),.box 55 [.d (.v (.int .i64 0)),.d (.v (.slice none 0 0)),.d (.v (.slice none 0 0))],.box 58 ((bp Rng.zero).map .d),.gone,.gone,.row 58 3 1 (ab (v.ranges.map bp)),.gone,.row 71 4 v.subs.length (ab (v.subs.map aT)),.box 55 [.d (.v (.int .i64 v.id)),.own 11 g,.own 8 v.subs.length],.box 58 ((bp x).map .d),.row 58 3 g (ab (out.map bp))]) rfl (wf) ?_ ?_
     ·intro j s hs hj hJ C2 jU;have lh:(j:Int) < (v.subs.length:Int):=aa;have mW:=wi j aa;have FL:=xE s.at_ p;rw[wv]at FL;cases b4:dS s.at_ p with
      |true=>
       have hr:R=(Vpc.zero,Rng.zero,9):=by rw[gn.out,ah (XR.2 ⟨s,Xk hs,b4⟩)]
       rw[hr];replace hr:=Xi hr;rw[b4]at FL;replace hJ:=Xi hJ;refine aq ?_<;>intros;all_goals exact dg
      |false=>
       have Di:=Xi (en (p:=fun s:Sbn=>!(dS s.at_ p)) hs hJ (by rw[b4];rfl));rw[b4]at FL;replace hJ:=Xi hJ;refine aq ?_<;>intros;exact jU _ _ Di.out (wf)
     ·intro hJ C2;have bQ:(v.subs.any fun s=>dS s.at_ p)=false:=by
       rw[Xq]at hJ;rw[Yh];intro x hx;have:=XD.1 hJ x hx;simpa using this
      have hr:R=({v with ranges:=out},x,0):=by rw[gn.out,af (by simp[bQ])]
      rw[hr];replace hr:=Xi hr;replace hJ:=Xi hJ;replace bQ:=Xi bQ;exact aY;all_goals exact dg
 ·have h1:(bM v !=0)=true:=by simpa using hc
  have hr:R=(Vpc.zero,Rng.zero,bM v):=by rw[hR.out];unfold dU;rw[ah hc]
  rw[hr];replace hr:=Xi hr;clear hR;refine pj func83 ntmps83 results83 ?_;refine aq ?_<;>intros;exact dg
def Lv (s:Ste)(c:Cmd):Ste × Ans:=
 if 1<=c.op/\c.op<=6 then (⟨(tq s.book s.net.vpcs c).1,s.net⟩,(tq s.book s.net.vpcs c).2)
 else if c.op=7 then if yO s.book c.a=true then (s,.er 6)else (⟨s.book,(jk s.net c.a).1⟩,.er (jk s.net c.a).2)
 else if c.op=15 then (⟨s.book,(jY s.net c.a c.b).1⟩,.er (jY s.net c.a c.b).2)
 else if c.op=16 then (⟨s.book,(ji s.net c.a c.b).1⟩,.er (ji s.net c.a c.b).2)
 else if ¬(8<=c.op/\c.op<=14)then (s,.er 4)
 else if cq (fun v=>v.id==c.a) s.net.vpcs < 0 then (s,.er 5)
 else match s.net.vpcs[(cq (fun v=>v.id==c.a) s.net.vpcs).toNat]? with
  |none=>(s,.er 5)
  |some v=>
   if c.op=8 then
    if (cQ s.book c.b c.c c.a).2.2=0 then (⟨(cQ s.book c.b c.c c.a).1,(iG s.net c.a ⟨(cQ s.book c.b c.c c.a).2.1,c.b⟩).1⟩,⟨(iG s.net c.a ⟨(cQ s.book c.b c.c c.a).2.1,c.b⟩).2,(cQ s.book c.b c.c c.a).2.1,0⟩)
    else (⟨(cQ s.book c.b c.c c.a).1,s.net⟩,⟨(cQ s.book c.b c.c c.a).2.2,(cQ s.book c.b c.c c.a).2.1,0⟩)
   else if c.op=9 then
    if (dU v c.at_).2.2=0 then (⟨(fL s.book (dU v c.at_).2.1.pool (dU v c.at_).2.1.at_).1,{s.net with vpcs:=s.net.vpcs.set (cq (fun v=>v.id==c.a) s.net.vpcs).toNat (dU v c.at_).1}⟩,.er (fL s.book (dU v c.at_).2.1.pool (dU v c.at_).2.1.at_).2)
    else (⟨s.book,{s.net with vpcs:=s.net.vpcs.set (cq (fun v=>v.id==c.a) s.net.vpcs).toNat (dU v c.at_).1}⟩,.er (dU v c.at_).2.2)
   else (⟨s.book,{s.net with vpcs:=s.net.vpcs.set (cq (fun v=>v.id==c.a) s.net.vpcs).toNat (HF v c).1}⟩,(HF v c).2)
theorem UO [Flo](s:Ste)(c:Cmd)(hb:BookOK s.book)(hn:NetOK s.net)(mq:rK s.net):
 ai prog 30 [.agg (bJ s),.agg (jp c)] (.tup [.agg (bJ (Lv s c).1),.agg (eG (Lv s c).2)]):=by
 have n8:=hb.n8;have eP:=hb.l32;have n6:=hn.n6;have hz:∀p∈s.book.pools,p.leases.length<=3518437208882:=fun p hp=>by have:=eP p hp;omega
 have oT:∀v∈s.net.vpcs,VpcOK v:=fun v hv=>be (hn.vp v hv);have iE:=Ln.mk (ls:=[]) (iA s.book aa eP);have P6:=Ln.mk (ls:=[]) (mg s.net n6 hn.n12 hn.vp);have S1:=iB s.net c.a aa;have co:=gI c.op 1 6;have cM:=gI c.op 8 14;clear hb hn;unfold Lv;by_cases ho:1<=c.op/\c.op<=6
 ·rw[ah ho];have hp:=OY s c hz n6 (fun v hv=>by have:=(oT v hv).n4;omega);have e1:(decide (1<=c.op)&&decide (c.op<=6))=true:=by simp[ho.1,ho.2]
  rw[e1]at co;generalize tq s.book s.net.vpcs c=R at*;clear cM;replace ho:=Xi ho;replace hz:=Xi hz;replace eP:=Xi eP;replace oT:=Xi oT;refine pj func30 ntmps30 results30 ?_;first|exact aY|(refine aq ?_;exact dz)
 rw[af ho];have e1:(decide (1<=c.op)&&decide (c.op<=6))=false:=by rw[ZN];simp only[decide_eq_false_iff_not];omega
 rw[e1]at co;replace ho:=Xi ho;by_cases h7:c.op=7
 ·rw[ah h7];have e7:(c.op==7)=true:=by simpa using h7
  replace h7:=Xi h7;have hp:=Sb s.book c.a aa (fun p hp=>by have:=eP p hp;omega);have hm:=La s.net c.a mq;generalize jk s.net c.a=R at*;clear cM;replace hz:=Xi hz;replace eP:=Xi eP;replace oT:=Xi oT;replace mq:=Xi mq;by_cases hw:yO s.book c.a=true
  ·rw[ah hw];rw[hw]at hp;refine pj func30 ntmps30 results30 ?_;first|exact aY|(refine aq ?_;exact dz)
  ·rw[af hw];rw[ZM]at hw;rw[hw]at hp;refine pj func30 ntmps30 results30 ?_;first|exact aY|(refine aq ?_;exact dz)
 rw[af h7];have e7:(c.op==7)=false:=by simpa using h7
 by_cases H4:c.op=15
 ·rw[ah H4];have e15:(c.op==15)=true:=by simpa using H4
  replace H4:=Xi H4;have hm:=Le s.net c.a c.b mq;generalize jY s.net c.a c.b=R at*;clear cM;replace hz:=Xi hz;replace eP:=Xi eP;replace oT:=Xi oT;replace mq:=Xi mq;refine pj func30 ntmps30 results30 ?_;first|exact aY|(refine aq ?_;exact dz)
 rw[af H4];have e15:(c.op==15)=false:=by simpa using H4
 by_cases BD:c.op=16
 ·rw[ah BD];have e16:(c.op==16)=true:=by simpa using BD
  replace BD:=Xi BD;have hm:=Ld s.net c.a c.b mq;generalize ji s.net c.a c.b=R at*;clear cM;replace hz:=Xi hz;replace eP:=Xi eP;replace oT:=Xi oT;replace mq:=Xi mq;refine pj func30 ntmps30 results30 ?_;first|exact aY|(refine aq ?_;exact dz)
 rw[af BD];have e16:(c.op==16)=false:=by simpa using BD
 replace h7:=Xi h7;replace H4:=Xi H4;replace BD:=Xi BD;by_cases h8:8<=c.op/\c.op<=14
 ·rw[af (by simpa using h8)];have e8:(decide (8<=c.op)&&decide (c.op<=14))=true:=by simp[h8.1,h8.2]
  rw[e8]at cM;replace h8:=Xi h8;rcases uC (fun v:Vpc=>v.id==c.a) s.net.vpcs with hi|⟨k,v,hk,hv⟩
  ·rw[ah hi];have e9:decide (cq (fun v:Vpc=>v.id==c.a) s.net.vpcs < 0)=true:=by simpa using hi
   generalize cq (fun v:Vpc=>v.id==c.a) s.net.vpcs=i at*;replace hz:=Xi hz;replace eP:=Xi eP;replace oT:=Xi oT;replace mq:=Xi mq;replace hi:=Xi hi;refine pj func30 ntmps30 results30 ?_;first|exact aY|(refine aq ?_;exact dz)
  ·rw[hk]at S1 ⊢;rw[af aa,Int.toNat_natCast,hv];dsimp only;have hlt:=(Xm.1 hv).1;have dF:(k:Int) < (s.net.vpcs.length:Int):=aa;have e9:decide ((k:Int) < 0)=false:=ak;have tG:=Xk hv;have bD:=oT v tG;have hs6:v.subs.length<=9223372036854775807:=by have:=bD.n6;omega
   have hs8:∀s∈v.subs,s.faces.length<=9223372036854775807:=fun s hs=>by have:=(bD.n8 s hs).1;omega
   have b9:=fun(x:Vpc)=>bN au s.net.vpcs k x;replace hk:=Xi hk;replace tG:=Xi tG;replace bD:=Xi bD;clear oT;by_cases h8:c.op=8
   ·rw[ah h8];have e8:(c.op==8)=true:=by simpa using h8
    replace h8:=Xi h8;have hp:=E2 s.book c.b c.c c.a hz;generalize cQ s.book c.b c.c c.a=R at*;by_cases h0:R.2.2=0
    ·rw[ah h0];have hg:=Lb s.net c.a ⟨R.2.1,c.b⟩ mq;generalize iG s.net c.a ⟨R.2.1,c.b⟩=G at*;replace hz:=Xi hz;replace eP:=Xi eP;replace mq:=Xi mq;refine pj func30 ntmps30 results30 ?_;first|exact aY|(refine aq ?_;exact dz)
    ·rw[af h0];have e0:(R.2.2==0)=false:=by simpa using h0
     replace hz:=Xi hz;replace eP:=Xi eP;replace mq:=Xi mq;replace h0:=Xi h0;refine pj func30 ntmps30 results30 ?_;first|exact aY|(refine aq ?_;exact dz)
   rw[af h8];have e8:(c.op==8)=false:=by simpa using h8
   by_cases h9:c.op=9
   ·rw[ah h9];have e9:(c.op==9)=true:=by simpa using h9
    replace h9:=Xi h9;have hp:=Lu v c.at_ hs6 hs8;generalize dU v c.at_=R at*;have b9:(ab (s.net.vpcs.map au)).set k [.d (.v (.int .i64 R.1.id)),.d (.sl 3 (R.1.ranges.map bp)),.d (.sl 4 (R.1.subs.map aT))]=ab ((s.net.vpcs.set k R.1).map au):=b9 R.1;by_cases h0:R.2.2=0
    ·rw[ah h0];have hg:=E3 s.book R.2.1.pool R.2.1.at_ hz;generalize fL s.book R.2.1.pool R.2.1.at_=G at*;replace hz:=Xi hz;replace eP:=Xi eP;replace mq:=Xi mq;refine pj func30 ntmps30 results30 ?_;first|exact aY|(refine aq ?_;exact dz)
    ·rw[af h0];have e0:(R.2.2==0)=false:=by simpa using h0
     replace h0:=Xi h0;replace hz:=Xi hz;replace eP:=Xi eP;replace mq:=Xi mq;refine pj func30 ntmps30 results30 ?_;first|exact aY|(refine aq ?_;exact dz)
   rw[af h9];have e9:(c.op==9)=false:=by simpa using h9
   replace h9:=Xi h9;have hp:=Sc v c hs6 hs8;generalize HF v c=R at*;have b9:(ab (s.net.vpcs.map au)).set k [.d (.v (.int .i64 R.1.id)),.d (.sl 3 (R.1.ranges.map bp)),.d (.sl 4 (R.1.subs.map aT))]=ab ((s.net.vpcs.set k R.1).map au):=b9 R.1;replace hz:=Xi hz;replace eP:=Xi eP;replace mq:=Xi mq;refine pj func30 ntmps30 results30 ?_;first|exact aY|(refine aq ?_;exact dz)
 ·rw[ah h8];have e8:(decide (8<=c.op)&&decide (c.op<=14))=false:=by rw[ZN];simp only[decide_eq_false_iff_not];omega
  rw[e8]at cM;replace h8:=Xi h8;replace hz:=Xi hz;replace eP:=Xi eP;replace oT:=Xi oT;replace mq:=Xi mq;refine pj func30 ntmps30 results30 ?_;first|exact aY|(refine aq ?_;exact dz)
theorem a3P {p:Prop}(h:p:=by
 rw[ah h2,ah h2];exact .refl _):p:=h
theorem Sd {b:Bok}(h:BookOK b)(id:Int):vu (vZ b) id=yO b id:=by
 rw[CJ h,Yi];unfold vu yO;simp only[XR,Xv,beq_iff_eq];constructor
 ·rintro⟨⟨k,o⟩,hm,ho⟩;obtain⟨p,hp,l,hl,h1,-,h2⟩:=rL.1 hm;exact⟨p,hp,l,hl,h1,by rw[<-h2];exact ho⟩
 ·rintro⟨p,hp,l,hl,h1,h2⟩;exact⟨([l.at_.at_,l.at_.len,p.id],l.owner),rL.2 ⟨p,hp,l,hl,h1,rfl,rfl⟩,h2⟩
theorem OZ (vs:List Vpc)(r:Rng):IP vs r=vs.any fun v=>v.ranges.any fun x=>decide (x=r):=by
 unfold IP;have:(fun x:Rng=>decide (r=x))=fun x=>decide (x=r):=by funext x;exact decide_eq_decide.2 ⟨fun h=>h.symm,fun h=>h.symm⟩
 rw[this]
structure SameAct (a b:Ste × Ans):Prop where
 err:a.2.err=b.2.err
 eq:a.2.err=0->a=b
theorem SameAct.refl (a:Ste × Ans):SameAct a a:=⟨rfl,fun _=>rfl⟩
theorem Lw (b:Bok)(vs:List Vpc)(lk:List Lnk)(c:Cmd)(h:1<=c.op/\c.op<=6):SameAct (⟨(tq b vs c).1,⟨vs,lk⟩⟩,(tq b vs c).2) (⟨(jX b vs c).1,⟨vs,lk⟩⟩,(jX b vs c).2):=by
 unfold tq jX;by_cases h1:c.op=1
 ·rw[ah h1,ah h1];exact .refl _
 rw[af h1,af h1];by_cases h2:c.op=2
 ·exact a3P
 rw[af h2,af h2];by_cases h3:c.op=3
 ·rw[ah h3,ah h3];exact .refl _
 rw[af h3,af h3];by_cases h4:c.op=4
 ·rw[ah h4,ah h4];exact .refl _
 rw[af h4,af h4];by_cases h5:c.op=5
 ·rw[ah h5,ah h5];cases ig vs c.c
  ·exact .refl _
  ·exact⟨rfl,fun e=>absurd e (by simp[Ans.er])⟩
 rw[af h5,af h5,ah (show c.op=6 by omega),OZ];cases vs.any fun v=>v.ranges.any fun x=>decide (x=(⟨c.at_,c.a⟩:Rng))
 ·exact .refl _
 ·exact⟨rfl,fun e=>absurd e (by simp[Ans.er])⟩
theorem O0 (s:Ste)(c:Cmd)(hb:BookOK s.book):SameAct (Lv s c) (zR s c):=by
 unfold Lv zR;by_cases h1:1<=c.op/\c.op<=6
 ·rw[ah h1,ah h1];exact Lw s.book s.net.vpcs s.net.links c h1
 rw[af h1,af h1];unfold sX sY;by_cases h7:c.op=7
 ·rw[ah h7,ah (show decide (c.op=7\/c.op=15\/c.op=16)=true by simp[h7]),ah h7,Sd hb];by_cases hw:yO s.book c.a=true
  ·rw[ah hw,ah hw];exact⟨rfl,fun e=>absurd e (by simp[Ans.er])⟩
  ·rw[af hw,af hw];exact .refl _
 rw[af h7];by_cases H4:c.op=15
 ·rw[ah H4,ah (show decide (c.op=7\/c.op=15\/c.op=16)=true by simp[H4]),af h7,ah H4];exact .refl _
 rw[af H4];by_cases BD:c.op=16
 ·rw[ah BD,ah (show decide (c.op=7\/c.op=15\/c.op=16)=true by simp[BD]),af h7,af H4];exact .refl _
 rw[af BD,af (show ¬decide (c.op=7\/c.op=15\/c.op=16)=true by simp[h7,H4,BD])];by_cases h8:8<=c.op/\c.op<=14
 ·rw[af (by simpa using h8),ah h8];unfold gL;rcases uC (fun v:Vpc=>v.id==c.a) s.net.vpcs with hi|⟨k,v,hk,hv⟩
  ·rw[ah hi,ah hi];exact .refl _
  ·have hk0:¬(k:Int) < 0:=aa;rw[hk,af hk0,af hk0,Int.toNat_natCast,hv];dsimp only;unfold mT;by_cases h9:c.op=8
   ·rw[ah h9,ah h9];by_cases h0:(cQ s.book c.b c.c c.a).2.2=0
    ·rw[ah h0,ah h0];exact .refl _
    ·rw[af h0,af h0];exact .refl _
   rw[af h9,af h9];by_cases h9:c.op=9
   ·rw[ah h9,ah h9];by_cases h0:(dU v c.at_).2.2=0
    ·rw[ah h0,ah h0];exact .refl _
    ·rw[af h0,af h0];exact .refl _
   rw[af h9,af h9];unfold HF;by_cases h2:c.op=10
   ·exact a3P
   rw[af h2,af h2];by_cases h2:c.op=11
   ·exact a3P
   rw[af h2,af h2];by_cases h2:c.op=12
   ·exact a3P
   rw[af h2,af h2];by_cases h2:c.op=13
   ·exact a3P
   rw[af h2,af h2];exact .refl _
 ·rw[ah h8,af h8];exact⟨rfl,fun e=>absurd e (by simp[Ans.er])⟩
theorem WI [Flo](s:Ste)(c:Cmd)(hz:∀p∈s.book.pools,p.leases.length<=3518437208882)(mq:rK s.net):ai prog 9 [.agg (bJ s),.agg (jp c)] (.tup [.agg (bJ (qL s c).1),.agg (eG (qL s c).2.1),.v (.int .i64 (qL s c).2.2)]):=by
 have hc:=pS s hz mq;unfold qL;by_cases h:fj s=0
 ·rw[af (by simpa using h)];rw[h]at hc;obtain⟨qq,mU⟩:=nL h;have tL:=db qq;have bQ:=gw.1 mU;have hdo:=UO s c tL bQ mq;have BC:=O0 s c tL;have iE:=Ln.mk (ls:=[]) (iA s.book tL.n8 tL.l32);have P6:=Ln.mk (ls:=[]) (mg s.net bQ.n6 bQ.n12 bQ.vp);clear h qq mU tL bQ;replace hz:=Xi hz;replace mq:=Xi mq;generalize Lv s c=R at*;by_cases he:(zR s c).2.err=0
  ·rw[af (by simpa using he)];have he':R.2.err=0:=by rw[BC.err];exact he
   rw[<-BC.eq he'];replace he:=Xi he;clear BC;refine pj func9 ntmps9 results9 ?_;first|exact aY|(refine aq ?_;exact dz)
  ·rw[ah he];have he':(R.2.err !=0)=true:=by rw[BC.err];simpa using he
   rw[<-BC.err];replace he:=Xi he;clear BC;refine pj func9 ntmps9 results9 ?_;first|exact aY|(refine aq ?_;exact dz)
 ·rw[ah h];have e1:(fj s !=0)=true:=by simpa using h
  generalize fj s=X at*;replace h:=Xi h;clear hz mq;refine pj func9 ntmps9 results9 ?_;first|exact aY|(refine aq ?_;exact dz)
theorem RealC.box_le [Flo]{X:Cfg}{e:bU}{h:List Chunk}{a:Act}{w:World}{c:Cx}(hr:RealC X (bs e h) a w c){k T:Nat}{cells cells':List PV}(hk:az h k= .box T cells)(hlt:k < h.length)(hle:vW cells cells')(h1:∀d∈cells',d.one=true):
 RealC X (bs e (bw h k (.box T cells'))) a w c:=by
 have hh:∀k',(bs e (bw h k (.box T cells'))).heap k'=if k'=k then .box T cells' else (bs e h).heap k':=fun k'=>ir (G' hlt) k';have hb:∀k',c.block k' ((bs e (bw h k (.box T cells'))).heap k')=c.block k' ((bs e h).heap k'):=a3O
 refine⟨hr.size,hr.defers,hr.ext,hr.inv,hr.fresh,fun b=>?_,fun k' b Jk=>?_,fun k' k'' b h1 h2=>?_,hr.env,fun k'=>?_,hr.lent⟩
 ·rw[hr.mu b];simp only[hb]
 ·rw[hb]at Jk;exact hr.new k' b Jk
 ·rw[hb]at h1 h2;exact hr.apart k' k'' b h1 h2
 ·rw[hh];split
  ·rename_i he;subst he;have bo:=hr.chunk k';rw[show (bs e h).heap k'=_ from hk]at bo;cases bo with
   |box _ _ b vs hb hhp HR eO=>exact .box T cells' b vs hb hhp (sq hle HR) h1
  ·exact hr.chunk k'
theorem Fz [Flo]{P:Program}{n m:Nat}{e:bU}{h:List Chunk}(k:Nat){T:Nat}(ds ds':List D)(hk:az h k= .box T (ds.map .d))(hlt:k < h.length)(hle:qZ ds ds')(h1:ds'.all D.one=true):cG P n m e h e (bw h k (.box T (ds'.map .d))):=
 fun X _ _ _ a w ⟨c,hc⟩=>⟨c,hc.box_le hk hlt (GG hle) fun d hd=>by
  obtain⟨x,hx,rfl⟩:=XF.1 hd;exact XD.1 h1 x hx⟩
theorem Se {l:List Cmd}{k:Nat}{c:Cmd}(h:l[k]? =some c):nN .zero (l.take (k+1))=(qL (nN .zero (l.take k)) c).1/\pR .zero (l.take (k+1))=pR .zero (l.take k)++[(qL (nN .zero (l.take k)) c).2.1]:=by
 rw[aj h,yJ,yK];exact⟨rfl,rfl⟩
theorem UP [Flo](l:List Cmd):ai prog 14 [.sl 10 (l.map jp)] (.tup [.agg (bJ (Fs l).1),.sl 4 ((Fs l).2.1.map eG),.v (.int .i64 (Fs l).2.2)]):=by
 unfold Fs;by_cases h:200 < l.length
 ·rw[ah h];have e1:decide ((l.length:Int)>200)=true:=aN;replace h:=Xi h;refine pj func14 ntmps14 results14 ?_;refine aq ?_;exact dz
 ·rw[af h];have e1:decide ((l.length:Int)>200)=false:=aN;have hle:l.length<=200:=aa;clear h;refine pj func14 ntmps14 results14 ?_;refine aq ?_;refine bq ag am l (fun _=>True) (fun k=>[(18,.d (.v (.int .i64 k))),(17,.d (.v (.int .i64 l.length))),(16,.d (.sl 10 (l.map jp))),(6,.own 2 k),(5,.ptr 1 0),(2,.ptr 0 0)])
   (fun k=>[.box 30 [.d (.v (.int .i64 0)),.d (.v (.slice none 0 0)),.d (.v (.slice none 0 0)),.d (.v (.slice none 0 0))],.box 30 ((bJ (nN .zero (l.take k))).map .d),.row 39 4 k (ab ((pR .zero (l.take k)).map eG))]) trivial ?_ ?_ ?_
  ·refine(du ak 6 39 4 rfl).trans ((Fz 1 [.v (.int .i64 0),.v (.slice none 0 0),.v (.slice none 0 0),.v (.slice none 0 0)] (bJ .zero) rfl ak ⟨aO.refl _,aO.nil _,aO.nil _,aO.nil _,trivial⟩ rfl).trans ?_);exact wf
  ·intro k c hc hk _ C hC;have dF:(k:Int) < (l.length:Int):=aa;have cX:=wi k aa;have mQ:=Ft (l.take k);have hdo:=Wv (nN .zero (l.take k)) c mQ.hz;obtain⟨mz,rP⟩:=Se hc;have gz:=Bv (l.take k) .zero;have hlt:(Ye k l).length=k:=by rw[Xo];omega
   rw[hlt]at gz;generalize qL (nN .zero (l.take k)) c=R at*;generalize nN .zero (l.take k)=S at*;generalize pR .zero (l.take k)=A at*;replace mz:=Xi mz;replace rP:=Xi rP;replace mQ:=Xi mQ;refine aq ?_;refine hC _ _ trivial ?_;rw[mz.out,rP.out];exact wf (hh:=by rw[Xn,Xl,Xp];rfl)
  ·intro _ C;rw[Xq];first|exact aY|(refine aq ?_;exact dz)
theorem vH [Flo](s:Ste)(h:qo s):ai prog 13 [.agg (bJ s),.agg (bJ s)] (.v (.bool true)):=by
 have h1:=E6 s.book h.1;have h2:=Hz s.net h.2;clear h;refine pj func13 ntmps13 results13 ?_;exact aY
def c0 (op a b c:Int):Cmd:=⟨op,a,b,c,⟨0,0⟩,⟨0,0,0,0⟩⟩
def Jc:List Cmd:=[⟨1,7,0,0,⟨256,8⟩,OB⟩,c0 7 1 0 0,c0 7 2 0 0,c0 8 1 7 10,c0 8 2 7 0,c0 15 2 1 0,⟨10,1,4,0,⟨256,14⟩,⟨0,0,0,0⟩⟩,c0 12 1 4 9,⟨9,2,0,0,⟨320,12⟩,⟨0,0,0,0⟩⟩,⟨6,7,0,0,⟨256,10⟩,⟨0,0,0,0⟩⟩]
theorem UQ [Flo]:ai prog 31 [] (.sl 10 (Jc.map jp)):=by
 have h:=R2;refine pj func31 ntmps31 results31 ?_;first|exact aY|(refine aq ?_;exact dz)
def WJ:Ste:=⟨⟨0,[⟨7,0,⟨256,8⟩,⟨8,16,12,3⟩,[⟨⟨256,10⟩,1,1,0⟩,⟨⟨320,12⟩,3,0,3⟩]⟩]⟩,⟨[⟨1,[⟨⟨256,10⟩,7⟩],[⟨4,⟨256,14⟩,[⟨9,[257]⟩]⟩]⟩,⟨2,[],[]⟩],[⟨1,2⟩]⟩⟩
def anF:List Ans:=[.er 0,.er 0,.er 0,⟨0,⟨256,10⟩,0⟩,⟨0,⟨320,12⟩,0⟩,.er 0,.er 0,⟨0,⟨0,0⟩,257⟩,.er 0,.er 9]
theorem O1:Fs Jc=(WJ,anF,0):=aK
theorem UR:fj WJ=0:=aK
theorem vI [Flo]:ai prog 10 [] (.v (.bool true)):=by
 have h1:=UQ;have h2:=UP Jc;have h3:=ya WJ (by simp[WJ]);rw[UR]at h3;rw[O1]at h2;generalize Jc.map jp=L at*;simp only[WJ,anF,Ans.er,bJ,al,au,bS,eG,bc,bp,aT,bR,cm,Xl,Xp]at h2 h3;refine pj func10 ntmps10 results10 ?_;refine aq ?_;simp only[List.append_eq,X5,X8];exact aY
theorem Sf [Flo](s:Ste)(c:Cmd)(hz:∀p∈s.book.pools,p.leases.length<=3518437208882)(mq:rK s.net)(h:¬fj s=0):ai prog 6 [.agg (bJ s),.agg (jp c)] (.v (.bool true)):=by
 have hc:=pS s hz mq;have hb:=vI;have e1:(fj s !=0)=true:=by simpa using h
 generalize fj s=X at*;replace h:=Xi h;clear hz mq;refine pj func6 ntmps6 results6 ?_;exact aY
def US (s:Ste)(c:Cmd):List Chunk:=[.box 30 ((bJ s).map .d),.box 36 ((jp c).map .d),.gone,.gone,.gone,.gone,.gone,.gone,.gone,.gone,.gone,.box 30 ((bJ s).map .d)]
theorem Sg [Flo]{R0 B R3 R4 L1 L2 L3 tail:Code}(hb:Tryz.f6.body=some (R0.seq (B.seq (R3.seq (R4.seq (L1.seq (L2.seq (L3.seq tail))))))))(s:Ste)(c:Cmd)(hz:∀p∈s.book.pools,p.leases.length<=3518437208882)(mq:rK s.net)(h:fj s=0)(C:bU->List Chunk->Prop)(hC:∀e h,cG prog 231 0 e h [(2,.ptr 0 0),(3,.ptr 1 0),(5,.ptr 11 0)] (US s c)->C e h):
 sC prog 231 0 nj vU (R0.seq (B.seq R3)) (kG C KF) ⟨⟩ (nZ ([D.agg (bJ s),D.agg (jp c)].map .d) 0) []:=by
 cases hb;have hc:=pS s hz mq;rw[h]at hc;obtain⟨qq,mU⟩:=nL h;have tL:=db qq;have bQ:=gw.1 mU;have iE:=Ln.mk (ls:=[]) (iA s.book tL.n8 tL.l32);have P6:=Ln.mk (ls:=[]) (mg s.net bQ.n6 bQ.n12 bQ.vp);clear h qq mU tL bQ hz mq;unfold US at hC;refine aq ?_;refine hC _ _ ?_;refine cG.trans (av 5 s.book.pools.length 62 9 (s.book.pools.map al) rfl) ?_;simp only[eM,fz,ee,dX,eF,d7,aD,aZ,bg,Xl,Xp,Xz,Xx,reduceIte,and_true,true_and,and_self,and_false,false_and,Xw,XG,reduceCtorEq];refine cG.trans (av 8 1 76 2 (s.net.links.map bS) rfl) ?_;simp only[eM,fz,ee,dX,eF,d7,aD,aZ,bg,Xl,Xp,Xz,Xx,reduceIte,and_true,true_and,and_self,and_false,false_and,Xw,XG,reduceCtorEq];refine cG.trans (av 10 s.net.vpcs.length 55 3 (s.net.vpcs.map au) rfl) ?_;simp only[eM,fz,ee,dX,eF,d7,aD,aZ,bg,Xl,Xp,Xz,Xx,reduceIte,and_true,true_and,and_self,and_false,false_and,Xw,XG,reduceCtorEq];exact wf
theorem Si [Flo]{R0 B R3 R4 L1 L2 L3 tail:Code}(hb:Tryz.f6.body=some (R0.seq (B.seq (R3.seq (R4.seq (L1.seq (L2.seq (L3.seq tail))))))))(s:Ste)(c:Cmd)(hz:∀p∈s.book.pools,p.leases.length<=3518437208882)(C:bU->List Chunk->Prop)
 (hC:∀e h,cG prog 231 0 e h [(6,.ptr 0 0),(7,.ptr 1 0),(8,.d (.v (.int .i64 (qL s c).2.2)))] [.box 30 ((kk Flo.N (qL s c).1).map .d),.box 39 ((eG (qL s c).2.1).map .d)]->C e h):
 sC prog 231 0 nj vU R4 (kG C KF) ⟨⟩ (Oo s c) []:=by
 cases hb;have hd:=Ww s c hz;generalize qL s c=R at*;clear hz;unfold Oo;refine aq ?_;exact hC _ _ wf
theorem Sj [Flo]{R0 B R3 R4 L1 L2 L3 tail:Code}(hb:Tryz.f6.body=some (R0.seq (B.seq (R3.seq (R4.seq (L1.seq (L2.seq (L3.seq tail))))))))(s:Ste)(c:Cmd)(hz:∀p∈s.book.pools,p.leases.length<=3518437208882)(mq:rK s.net)(h:fj s=0):
 sC prog 231 0 nj vU tail (ni nj [.tmp 4] (.v (.bool true))) ⟨⟩ (Oq s c (qL s c).2.1 (.int .i64 (qL s c).2.2)) []:=by
 cases hb;obtain⟨qq,mU⟩:=nL h;have h1:=Wv s c hz;have h2:=WI s c hz mq;have h3:=vI;have h4:=vH _ (Bu s c);have h5:=vH s ⟨jm (db qq),eC (gw.1 mU)⟩;generalize qL s c=R at*;clear hz mq h qq mU;unfold Oq;exact aY
theorem HG (s:Ste)(c:Cmd)(hz:∀p∈s.book.pools,p.leases.length<=3518437208882)(mq:rK s.net){W:World}{vs:List Value}(fD:@cj ⟨W.heap.size⟩ (fun _=>False) W [.agg (bJ s),.agg (jp c)] vs):
 Calls prog 6 vs.toArray W fun e w'=>e= .returned (.bool true)/\dy W w':=by
 by_cases h:fj s=0
 ·refine KS (Ta:=39) (Ts:=30) (Tc:=36) (s':=(qL s c).1) (an:=(qL s c).2.1) (x8:= .int .i64 (qL s c).2.2) (k5:=11) (H1:=US s c) func6 ntmps6 results6 rfl ?_ ?_ zr ?_ ?_ rfl rfl rfl ?_ ?_ ?_ ?_ fD
  ·kernel_rfl
  ·kernel_rfl
  ·kernel_rfl
  ·kernel_rfl
  ·intro _ C hC;exact Sg rfl s c hz mq h C hC
  ·intro _ C hC;exact Si rfl s c hz C hC
  ·intro X v2 v3 v5 hP hn hm hL;exact⟨@UI ⟨0⟩ rfl X ⟨hP,hn,hm⟩ hL v2 v3 v5 _ _,@UJ ⟨0⟩ rfl X ⟨hP,hn,hm⟩ hL v2 v3 v5 _ _,@UH ⟨0⟩ rfl X ⟨hP,hn,hm⟩ hL v2 v3 v5 _ _⟩
  ·intro _;exact Sj rfl s c hz mq h
 ·refine((@Sf ⟨W.heap.size⟩ s c hz mq h).2 (fun _=>False) W vs (fun _ h=>h.elim) ⟨fun x hx=>(by rw[yr]at hx;cases hx),XA _,fun _ h=>h.elim⟩ fD).mono ?_;rintro e w' ⟨v,rfl,hv,hx⟩;cases hv;exact⟨rfl,hx⟩
section
open Go.Proofs Go.ChangeShapes Go.WideShapes Go.Deep
def NM:Nat->Prop:=fun _=>False
section
variable {H:Type}{enc:TypeId × Value->H}{P:Program}{w:World}{base:Nat}{spare:Nat->Bool}{held:Bool}
def zl {α:Type}(enc:TypeId × Value->H)(P:Program)(w:World)(base:Nat)(spare:Nat->Bool)(held:Bool)(t:TypeId)(R:List Value->α->Prop)(S:α->Prop):Prop:=
 ∀fuel cs x,DataW.trod enc P w base spare held fuel t cs=some x->∃a,R cs a/\((∀n∈x.1.weights P t,n<=reachBytes)->S a)
theorem yR {α:Type}{t:TypeId}{R:List Value->α->Prop}(h:Rd enc P w base spare held t R):zl enc P w base spare held t R (fun _=>True):=by
 intro fuel cs x hx;obtain⟨a,ha⟩:=h fuel cs x hx;exact⟨a,ha,fun _=>trivial⟩
theorem vJ {e:TypeId}:∀{l:List (DataW H)}{d:DataW H},d∈l->∀n∈d.weights P e,n∈DataW.weightsAll P e l
 |a::l,d,h,n,hn=>by
  simp only[DataW.weightsAll,X0];rcases XY.1 h with rfl|h
  ·exact .inl hn
  ·exact .inr (vJ h n hn)
theorem gJ {α:Type}{t:TypeId}{fs:Array Field}{fuel:Nat}{cs:List Value}{x:DataW H × List MemPlace}(ht:P.underlying t=some (.struct fs))(h:DataW.trod enc P w base spare held fuel t cs=some x)
 (j:Nat) {f:Field} (hf:fs[j]? =some f) {R:List Value->α->Prop}{S:α->Prop} (hr:zl enc P w base spare held f.type R S):∃a,R ((cs.drop f.offset).take (P.cellsOf f.type)) a/\((∀n∈x.1.weights P t,n<=reachBytes)->S a):=by
 obtain⟨xs,n,_,rfl,_,bP,hg⟩:=DataW.trod_struct ht h;have h1:=hg j f hf;have hj:j < xs.length:=by rw[bP];exact(Yo.1 hf).1
 rw[Xj hj]at h1;obtain⟨a,ha,hs⟩:=hr _ _ _ h1;refine⟨a,ha,fun hw=>hs fun n hn=>hw n ?_⟩;simp only[DataW.weights,ht];exact DataW.weights_mem_each (j:=j) (t:=f.type) (d:=(xs[j]).1) (by simp[hf]) (by simp[Xj hj]) n hn
theorem jn {α:Type}{t e:TypeId}{k:Nat}{R:List Value->α->Prop}{S:α->Prop}(ht:P.underlying t=some (.slice e))(hc:P.cellsOf e=k+1)(he:zl enc P w base spare held e R S):
 zl enc P w base spare held t (fun cs (l:List α)=>∃v,cs=[v]/\V1 (inW w) w (k+1) R v l) (fun l=>l.length*P.bytesOf e<=reachBytes/\∀a∈l,S a):=by
 intro fuel cs x hx;rcases open_slice ht hx with⟨rfl,rfl⟩|⟨a,len,cap,m,n,D,Pl,rfl,hb,hl,hm,HX,rfl,hi⟩
 ·exact⟨[],⟨_,rfl,none,0,rfl,⟨XA _,by decide,fun i h=>by simp at h⟩⟩,fun _=>⟨by simp,fun a h=>by simp at h⟩⟩
 ·have mX:len<=m:=by rw[HX];split<;>omega
  obtain⟨l,zi,hq⟩:=uy (Q:=fun i y=>∃cs',w.cells? base (a.add (i*P.cellsOf e)) (P.cellsOf e)=some cs'/\R cs' y/\((∀n∈(D i).weights P e,n<=reachBytes)->S y)) len fun i h=>by
   obtain⟨cs',h1,h2⟩:=hi i aa;obtain⟨y,hy,hs⟩:=he _ _ _ h2;exact⟨y,cs',h1,hy,hs⟩
  refine⟨l,⟨_,rfl,some a,cap,by rw[zi],⟨by omega,by unfold maxLen at hm;omega,fun i h=>?_⟩⟩,fun hw=>⟨?_,fun y hy=>?_⟩⟩
  ·obtain⟨cs',h1,h2,-⟩:=hq i h;rw[hc]at h1;obtain⟨_,gB,dh⟩:=World.cells?_some h1;obtain⟨b,off,spot⟩:=a;have a0x:spot=none:=by
    obtain⟨cs0,g1,_⟩:=hq 0 aa;rw[hc]at g1;obtain⟨_,gcl,gat⟩:=World.cells?_some g1;have g0:=gat (i:=0) aa;have g0':w.cell? ⟨b,off,spot⟩=some (cs0[0]'(by omega)):=by
     have:((⟨b,off,spot⟩:Addr).add (0*(k+1))).add 0=⟨b,off,spot⟩:=by simp[Addr.add]
     rw[this]at g0;rw[g0];exact Xj aa
    exact World.cell?_spot g0'
   subst a0x;have S4:∀o j,((⟨b,o,none⟩:Addr).add j)=⟨b,o+j,none⟩:=by
    intro o j;unfold Addr.add;split<;>simp_all
   refine⟨b,off,cs',rfl,?_,gB,h2,fun j hj=>?_⟩
   ·have:=dh (i:=0) aa;rw[S4,S4]at this;exact dI (this.trans (Xj aa))
   ·have:=dh (i:=j) aa;rw[S4,S4]at this;rw[this];exact Xj hj
  ·have:=hw (((X4 len).map D).length+((X4 (m - len)).map fun j=>D (len+j)).length|>(·*P.bytesOf e)) (by simp[DataW.weights,ht]);simp only[Xs,List.length_range]at this;rw[zi];exact Yj (Yt _ aa) this
  ·obtain⟨i,hil,rfl⟩:=XZ.1 hy;obtain⟨cs',h1,h2,h3⟩:=hq i hil;refine h3 fun n hn=>hw n ?_;simp only[DataW.weights,ht];refine YP _ (ZS _ (vJ (d:=D i) (XF.2 ⟨i,by simp;omega,rfl⟩) n hn))
theorem WK {α:Type}{R:List Value->α->Prop}{S:α->Prop}{r:Reach}{b0:Nat}{t:TypeId}{fs:Array Field}{v:Value}{d:DataW H}{p:List MemPlace}(ht:P.underlying t=some (.struct fs))(PS:Value.okWide P w r b0 t v)(hd:DataW.Trod enc P w base spare held t v d p)
 (hr:zl enc P w base spare held t R S):∃cs a,v= .agg cs/\R cs.toList a/\((∀n∈d.weights P t,n<=reachBytes)->S a):=by
 obtain⟨cs,rfl,_⟩:=okWide_struct ht PS;obtain⟨fuel,hf⟩:=hd;obtain⟨a,ha,hs⟩:=hr _ _ _ hf;exact⟨cs,a,rfl,by simpa[Value.cells]using ha,hs⟩
end
end
section
open Go.Proofs Go.ChangeShapes Go.WideShapes Go.Deep
class FlW [Flo] (w:World):Prop where
 le:w.heap.size<=Flo.N
theorem kS [Flo]{α:Type}{enc:α->List D}{sz:Nat}{w:World}[FlW w](h0:0 < sz)(hen:∀a,(enc a).length=sz/\∀d∈enc a,d.one=true){v:Value}{l:List α}(h:V1 (inW w) w sz (fun cs a=>cj NM w (enc a) cs) v l):RepD NM w (.sl sz (l.map enc)) v:=by
 obtain⟨ao,cap,rfl,hs⟩:=h;cases l with
 |nil=>exact .nil sz ao cap hs.cap_max
 |cons u us=>
  obtain⟨b,off,cs,rfl,hAb,hl,hR,fP⟩:=hs.elem 0 ak;have key:∀i (hi:i < (u::us).length),∃cs:List Value,cs.length=sz/\cj NM w (enc (u::us)[i]) cs/\mD w b (off+i*sz) cs:=by
   intro i hi;obtain⟨b',off',cs',e,-,hl',hR',Ak⟩:=hs.elem i hi;cases e;exact⟨cs',hl',hR',Ak⟩
  have bP:((u::us).map enc).length=(u::us).length:=ak;rw[<-bP];refine .sl sz ((u::us).map enc) b off cap (fun i j=>(w.cell? ⟨b,off+i*sz+j,none⟩).getD undef) (fun h=>h) hAb (by rw[bP];exact hs.cap_le) hs.cap_max (fun r hr=>?_) (fun r hr=>?_) (fun i j hi hj=>?_) (fun i j row d hi hj=>?_) (fun hN=>absurd (Ya hAb FlW.le) (ZX.2 hN))
  ·obtain⟨x,-,rfl⟩:=XF.1 hr;exact(hen x).1
  ·obtain⟨x,-,rfl⟩:=XF.1 hr;exact(hen x).2
  ·obtain⟨cs',hl',-,Ak⟩:=key i (by simpa using hi);rw[Ak j aa];rfl
  ·have hi':i < (u::us).length:=by have:=(Xm.1 hi).1;simpa using this
   obtain⟨cs',hl',hR',Ak⟩:=key i hi';rw[Xr,Xj hi']at hi;simp only[Yb,XU.injEq]at hi;subst hi;have hj':j < cs'.length:=by rw[<-hR'.1];exact(Xm.1 hj).1
   rw[Ak j hj'];exact hR'.2 j d _ hj (Xj hj')
section
variable {H:Type}{enc:TypeId × Value->H}{w:World}{base:Nat}{spare:Nat->Bool}{held:Bool}
theorem iC:prog.cellsOf 32=2:=aK
theorem cC:prog.cellsOf 3=1:=aK
theorem zX:prog.cellsOf 72=1:=aK
theorem qM:prog.cellsOf 74=2:=aK
theorem tu:prog.cellsOf 71=4:=aK
theorem pT:prog.cellsOf 58=3:=aK
theorem tr:prog.cellsOf 55=3:=aK
theorem yY:prog.cellsOf 69=1:=aK
theorem yX:prog.bytesOf 74=32:=aK
theorem zU:prog.cellsOf 53=1:=aK
theorem zV:prog.bytesOf 71=48:=aK
theorem wd:prog.cellsOf 52=1:=aK
theorem yS:Rd enc prog w base spare held 32 cP:=by
 intro fuel cs x hx;have hl:=kj underlying32 hx;rw[iC]at hl;obtain⟨a,ha⟩:=b8 underlying32 hx 0 rfl (eH underlying3);obtain⟨b,hb⟩:=b8 underlying32 hx 1 rfl (eH underlying3);match cs,hl with
 |[c0,c1],_=>
  simp[cC,wa]at ha hb;exact⟨⟨a,b⟩,by simp[cP,ha.1,hb.1]⟩
theorem fw [Flo](l:List Int):cj NM w (l.map fun n=> .v (.int .i64 n)) (l.map fun n=> .int .i64 n):=by
 refine⟨by simp,fun j d x hj hx=>?_⟩;rw[Xr,XB]at hj hx;obtain⟨a,ha,rfl⟩:=hj;obtain⟨c,hc,rfl⟩:=hx;rw[ha]at hc;obtain rfl:=XU.inj hc;exact .v _
theorem io [Flo]{M:Nat->Prop}{w:World}{ds es:List D}{vs us:List Value}(h:cj M w ds vs)(g:cj M w es us):cj M w (ds++es) (vs++us):=by
 refine⟨by simp[h.1,g.1],fun j d x hj hx=>?_⟩;rcases XL j ds.length with hlt|hge
 ·exact a4i
 ·rw[XI hge]at hj;rw[XI (by rw[<-h.1];exact hge),<-h.1]at hx;exact g.2 _ d x hj hx
theorem jo [Flo]{M:Nat->Prop}{w:World}{d:D}{v:Value}(h:RepD M w d v):cj M w [d] [v]:=⟨rfl,fun j e x hj hx=>by
 match j with
 |0=>cases hj;cases hx;exact h
 |j+1=>simp at hj⟩
theorem O2 [Flo][FlW w]:zl enc prog w base spare held 72 (fun cs (l:List Int)=>∃v,cs=[v]/\RepD NM w (.sl 1 (l.map cm)) v) (fun _=>True):=by
 have h:=jn (enc:=enc) (base:=base) (spare:=spare) (held:=held) underlying72 cC (yR ((eH (w:=w) underlying3).map id (R':=fun cs (a:Int)=>cj NM w (cm a) cs) fun cs a h=>by rw[h.1];exact fw [a]));intro fuel cs x hx;obtain⟨l,⟨v,rfl,hs⟩,hw⟩:=h fuel cs x hx;refine⟨l,⟨v,rfl,kS (sz:=1) aa (fun a=>⟨rfl,fun d hd=>?_⟩) hs⟩,fun _=>trivial⟩;simp[cm]at hd;rcases hd with rfl;rfl
theorem O3 [Flo][FlW w]:zl enc prog w base spare held 74 (fun cs (f:Fce)=>cj NM w (bR f) cs) (fun _=>True):=by
 intro fuel cs x hx;have hl:=kj underlying74 hx;rw[qM]at hl;obtain⟨a,ha⟩:=b8 underlying74 hx 0 rfl (eH underlying3);obtain⟨l,hs,hw⟩:=gJ underlying74 hx 1 rfl O2;match cs,hl with
 |[c0,c1],_=>
  simp[cC,zX,wa]at ha hs;refine⟨⟨a,l⟩,?_,fun _=>trivial⟩;rw[ha.1];exact io (fw [a]) (jo hs)
theorem Lx [Flo][FlW w]:zl enc prog w base spare held 69 (fun cs (l:List Fce)=>∃v,cs=[v]/\RepD NM w (.sl 2 (l.map bR)) v) (fun l=>l.length*32<=reachBytes):=by
 have h:=jn (enc:=enc) (base:=base) (spare:=spare) (held:=held) underlying69 qM (O3 (w:=w));intro fuel cs x hx;obtain⟨l,⟨v,rfl,hs⟩,hw⟩:=h fuel cs x hx;refine⟨l,⟨v,rfl,kS (sz:=2) aa (fun a=>⟨rfl,fun d hd=>?_⟩) hs⟩,fun hh=>by have:=(hw hh).1;rwa [yX]at this⟩;simp[bR]at hd;rcases hd with rfl|rfl<;>rfl
theorem Sk [Flo][FlW w]:zl enc prog w base spare held 71 (fun cs (s:Sbn)=>cj NM w (aT s) cs) (fun s=>s.faces.length*32<=reachBytes):=by
 intro fuel cs x hx;have hl:=kj underlying71 hx;rw[tu]at hl;obtain⟨a,ha⟩:=b8 underlying71 hx 0 rfl (eH underlying3);obtain⟨p,hp⟩:=b8 underlying71 hx 1 rfl yS;obtain⟨l,hs,hw⟩:=gJ underlying71 hx 2 rfl Lx;match cs,hl with
 |[c0,c1,c2,c3],_=>
  simp[iC,cC,yY,wa,cP]at ha hp hs;refine⟨⟨a,p,l⟩,?_,hw⟩;rw[ha.1,hp.1,hp.2];exact io (fw [a,p.at_,p.len]) (jo hs)
theorem O4 [Flo][FlW w]:zl enc prog w base spare held 53 (fun cs (l:List Sbn)=>∃v,cs=[v]/\RepD NM w (.sl 4 (l.map aT)) v) (fun l=>l.length*48<=reachBytes/\∀s∈l,s.faces.length*32<=reachBytes):=by
 have h:=jn (enc:=enc) (base:=base) (spare:=spare) (held:=held) underlying53 tu (Sk (w:=w));intro fuel cs x hx;obtain⟨l,⟨v,rfl,hs⟩,hw⟩:=h fuel cs x hx;refine⟨l,⟨v,rfl,kS (sz:=4) aa (fun a=>⟨rfl,fun d hd=>?_⟩) hs⟩,fun hh=>⟨by have:=(hw hh).1;rwa [zV]at this,(hw hh).2⟩⟩;simp[aT]at hd;rcases hd with rfl|rfl|rfl|rfl<;>rfl
theorem UT [Flo]:Rd enc prog w base spare held 58 fun cs (r:Rng)=>cj NM w (bp r) cs:=by
 intro fuel cs x hx;have hl:=kj underlying58 hx;rw[pT]at hl;obtain⟨p,hp⟩:=b8 underlying58 hx 0 rfl yS;obtain⟨a,ha⟩:=b8 underlying58 hx 1 rfl (eH underlying3);match cs,hl with
 |[c0,c1,c2],_=>
  simp[iC,cC,wa,cP]at ha hp;refine⟨⟨p,a⟩,?_⟩;rw[ha.1,hp.1,hp.2];exact fw [p.at_,p.len,a]
theorem Sm [Flo]:zl enc prog w base spare held 58 (fun cs (r:Rng)=>cj NM w (bp r) cs) (fun _=>True):=yR UT
theorem O5 [Flo][FlW w]:zl enc prog w base spare held 52 (fun cs (l:List Rng)=>∃v,cs=[v]/\RepD NM w (.sl 3 (l.map bp)) v) (fun _=>True):=by
 have h:=jn (enc:=enc) (base:=base) (spare:=spare) (held:=held) underlying52 pT (Sm (w:=w));intro fuel cs x hx;obtain⟨l,⟨v,rfl,hs⟩,hw⟩:=h fuel cs x hx;refine⟨l,⟨v,rfl,kS (sz:=3) aa (fun a=>⟨rfl,fun d hd=>?_⟩) hs⟩,fun _=>trivial⟩;simp[bp]at hd;rcases hd with rfl|rfl|rfl<;>rfl
theorem Sn [Flo][FlW w]:zl enc prog w base spare held 55 (fun cs (v:Vpc)=>cj NM w (au v) cs) (fun v=>v.subs.length<=9223372036854775807/\∀s∈v.subs,s.faces.length<=9223372036854775807):=by
 intro fuel cs x hx;have hl:=kj underlying55 hx;rw[tr]at hl;obtain⟨a,ha⟩:=b8 underlying55 hx 0 rfl (eH underlying3);obtain⟨r,hr,-⟩:=gJ underlying55 hx 1 rfl O5;obtain⟨l,hs,hw⟩:=gJ underlying55 hx 2 rfl O4;match cs,hl with
 |[c0,c1,c2],_=>
  simp[cC,wd,zU,wa]at ha hr hs;refine⟨⟨a,r,l⟩,?_,fun hh=>?_⟩
  ·rw[ha.1];exact io (fw [a]) (io (jo hr) (jo hs))
  ·have:=hw hh;unfold reachBytes at this;exact⟨by have:=this.1;show l.length<=9223372036854775807;omega,fun s hs=>by have:=this.2 s hs;omega⟩
end
theorem So [Flo]{M:Nat->Prop}{w:World}:cj M w [] []:=⟨rfl,fun j d x hj _=>by simp at hj⟩
theorem Jd [Flo]{M:Nat->Prop}{w:World}{d:D}{v:Value}{ds:List D}{vs:List Value}(h:RepD M w d v)(g:cj M w ds vs):cj M w (d::ds) (v::vs):=⟨by simp[g.1],fun j e x hj hx=>by
 cases j with
 |zero=>simp at hj hx;subst hj;subst hx;exact h
 |succ j=>exact g.2 j e x (by simpa using hj) (by simpa using hx)⟩
theorem Je [Flo]{w:World}{cs:Array Value}{ds:List D}(h:cj NM w ds cs.toList)(h1:ds.all D.one=true):RepD NM w (.agg ds) (.agg cs):=by
 have:=RepD.agg (M:=NM) (w:=w) ds cs.toList h.1 (fun d hd=>XD.1 h1 d hd) h.2;simpa using this
section
variable {H:Type}{enc:TypeId × Value->H}{w:World}{base:Nat}{spare:Nat->Bool}{held:Bool}
end
end
section
variable {H:Type}{enc:TypeId × Value->H}{w:World}{base:Nat}{spare:Nat->Bool}{held:Bool}
theorem qO:prog.cellsOf 76=2:=aK
theorem yW:prog.cellsOf 26=1:=aK
theorem zY:prog.cellsOf 25=1:=aK
theorem CM:prog.cellsOf 28=2:=aK
theorem UU [Flo]:Rd enc prog w base spare held 76 fun cs (l:Lnk)=>cj NM w (bS l) cs:=by
 intro fuel cs x hx;have hl:=kj underlying76 hx;rw[qO]at hl;obtain⟨a,ha⟩:=b8 underlying76 hx 0 rfl (eH underlying3);obtain⟨b,hb⟩:=b8 underlying76 hx 1 rfl (eH underlying3);match cs,hl with
 |[c0,c1],_=>
  simp[cC,wa]at ha hb;refine⟨⟨a,b⟩,?_⟩;rw[ha.1,hb.1];exact fw [a,b]
theorem O6 [Flo][FlW w]:zl enc prog w base spare held 26 (fun cs (l:List Lnk)=>∃v,cs=[v]/\RepD NM w (.sl 2 (l.map bS)) v) (fun _=>True):=by
 have h:=jn (enc:=enc) (base:=base) (spare:=spare) (held:=held) underlying26 qO (yR (UU (w:=w)));intro fuel cs x hx;obtain⟨l,⟨v,rfl,hs⟩,hw⟩:=h fuel cs x hx;refine⟨l,⟨v,rfl,kS (sz:=2) aa (fun a=>⟨rfl,fun d hd=>?_⟩) hs⟩,fun _=>trivial⟩;simp[bS]at hd;rcases hd with rfl|rfl<;>rfl
theorem O7 [Flo][FlW w]:zl enc prog w base spare held 25 (fun cs (l:List Vpc)=>∃v,cs=[v]/\RepD NM w (.sl 3 (l.map au)) v) (fun l=>∀v∈l,v.subs.length<=9223372036854775807/\∀s∈v.subs,s.faces.length<=9223372036854775807):=by
 have h:=jn (enc:=enc) (base:=base) (spare:=spare) (held:=held) underlying25 tr (Sn (w:=w));intro fuel cs x hx;obtain⟨l,⟨v,rfl,hs⟩,hw⟩:=h fuel cs x hx;refine⟨l,⟨v,rfl,kS (sz:=3) aa (fun a=>⟨rfl,fun d hd=>?_⟩) hs⟩,fun hh=>(hw hh).2⟩;simp[au]at hd;rcases hd with rfl|rfl|rfl<;>rfl
theorem Sp [Flo][FlW w]:zl enc prog w base spare held 28 (fun cs (n:Net)=>cj NM w (cN n) cs) rK:=by
 intro fuel cs x hx;have hl:=kj underlying28 hx;rw[CM]at hl;obtain⟨vs,hv,hw⟩:=gJ underlying28 hx 0 rfl O7;obtain⟨ls,hk,-⟩:=gJ underlying28 hx 1 rfl O6;match cs,hl with
 |[c0,c1],_=>
  simp[zY,yW]at hv hk;exact⟨⟨vs,ls⟩,io (jo hv) (jo hk),hw⟩
end
section
open Go.Proofs Go.ChangeShapes Go.WideShapes Go.Deep
section
variable {H:Type}{enc:TypeId × Value->H}{w:World}{base:Nat}{spare:Nat->Bool}{held:Bool}
theorem tw:prog.cellsOf 68=5:=aK
theorem tt:prog.cellsOf 62=9:=aK
theorem tv:prog.cellsOf 24=2:=aK
theorem oI:prog.cellsOf 34=4:=aK
theorem zW:prog.cellsOf 60=1:=aK
theorem Aa:prog.cellsOf 22=1:=aK
theorem z0:prog.bytesOf 68=40:=aK
theorem UV:Rd enc prog w base spare held 68 fun cs (l:Lse)=>cs=[.int .i64 l.at_.at_,.int .i64 l.at_.len,.int .i64 l.kind,.int .i64 l.owner,.int .i64 l.till]:=by
 intro fuel cs x hx;have hl:=kj underlying68 hx;rw[tw]at hl;obtain⟨p,hp⟩:=b8 underlying68 hx 0 rfl yS;obtain⟨k,hk⟩:=b8 underlying68 hx 1 rfl (eH underlying3);obtain⟨o,ho⟩:=b8 underlying68 hx 2 rfl (eH underlying3);obtain⟨t,ht⟩:=b8 underlying68 hx 3 rfl (eH underlying3);match cs,hl with
 |[c0,c1,c2,c3,c4],_=>
  simp[iC,cC,wa,cP]at hp hk ho ht;exact⟨⟨p,k,o,t⟩,by simp[hp.1,hp.2,hk.1,ho.1,ht.1]⟩
theorem O8:Rd enc prog w base spare held 34 fun cs (r:Rul)=>cs=[.int .i64 r.min,.int .i64 r.max,.int .i64 r.usual,.int .i64 r.cool]:=by
 intro fuel cs x hx;have hl:=kj underlying34 hx;rw[oI]at hl;obtain⟨a,ha⟩:=b8 underlying34 hx 0 rfl (eH underlying3);obtain⟨b,hb⟩:=b8 underlying34 hx 1 rfl (eH underlying3);obtain⟨c,hc⟩:=b8 underlying34 hx 2 rfl (eH underlying3);obtain⟨d,hd⟩:=b8 underlying34 hx 3 rfl (eH underlying3);match cs,hl with
 |[c0,c1,c2,c3],_=>
  simp[cC,wa]at ha hb hc hd;exact⟨⟨a,b,c,d⟩,by simp[ha.1,hb.1,hc.1,hd.1]⟩
theorem Sq [Flo]:Rd enc prog w base spare held 68 fun cs (l:Lse)=>cj NM w (bc l) cs:=
 UV.map id fun cs l h=>by rw[h];exact fw [l.at_.at_,l.at_.len,l.kind,l.owner,l.till]
theorem O9 [Flo][FlW w]:zl enc prog w base spare held 60 (fun cs (l:List Lse)=>∃v,cs=[v]/\RepD NM w (.sl 5 (l.map bc)) v) (fun l=>l.length*40<=reachBytes):=by
 have h:=jn (enc:=enc) (base:=base) (spare:=spare) (held:=held) underlying60 tw (yR (Sq (w:=w)));intro fuel cs x hx;obtain⟨l,⟨v,rfl,hs⟩,hw⟩:=h fuel cs x hx;refine⟨l,⟨v,rfl,kS (sz:=5) aa (fun a=>⟨rfl,fun d hd=>?_⟩) hs⟩,fun hh=>by have:=(hw hh).1;rwa [z0]at this⟩;simp[bc]at hd;rcases hd with rfl|rfl|rfl|rfl|rfl<;>rfl
theorem Sr [Flo][FlW w]:zl enc prog w base spare held 62 (fun cs (p:Pol)=>cj NM w (al p) cs) (fun p=>p.leases.length*40<=reachBytes):=by
 intro fuel cs x hx;have hl:=kj underlying62 hx;rw[tt]at hl;obtain⟨a,ha⟩:=b8 underlying62 hx 0 rfl (eH underlying3);obtain⟨b,hb⟩:=b8 underlying62 hx 1 rfl (eH underlying3);obtain⟨p,hp⟩:=b8 underlying62 hx 2 rfl yS;obtain⟨r,hr⟩:=b8 underlying62 hx 3 rfl O8;obtain⟨l,hs,hw⟩:=gJ underlying62 hx 4 rfl O9;match cs,hl with
 |[c0,c1,c2,c3,c4,c5,c6,c7,c8],_=>
  simp[iC,cC,oI,zW,wa,cP]at ha hb hp hr hs;refine⟨⟨a,b,p,r,l⟩,?_,hw⟩;rw[ha.1,hb.1,hp.1,hp.2,hr.1,hr.2.1,hr.2.2.1,hr.2.2.2];exact io (fw [a,b,p.at_,p.len,r.min,r.max,r.usual,r.cool]) (jo hs)
theorem Pa [Flo][FlW w]:zl enc prog w base spare held 22 (fun cs (l:List Pol)=>∃v,cs=[v]/\RepD NM w (.sl 9 (l.map al)) v) (fun l=>∀p∈l,p.leases.length*40<=reachBytes):=by
 have h:=jn (enc:=enc) (base:=base) (spare:=spare) (held:=held) underlying22 tt (Sr (w:=w));intro fuel cs x hx;obtain⟨l,⟨v,rfl,hs⟩,hw⟩:=h fuel cs x hx;refine⟨l,⟨v,rfl,kS (sz:=9) aa (fun a=>⟨rfl,fun d hd=>?_⟩) hs⟩,fun hh=>(hw hh).2⟩;simp[al]at hd;rcases hd with rfl|rfl|rfl|rfl|rfl|rfl|rfl|rfl|rfl<;>rfl
theorem Ss [Flo][FlW w]:zl enc prog w base spare held 24 (fun cs (b:Bok)=>cj NM w (bj b) cs) (fun b=>∀p∈b.pools,p.leases.length<=3518437208882):=by
 intro fuel cs x hx;have hl:=kj underlying24 hx;rw[tv]at hl;obtain⟨a,ha⟩:=b8 underlying24 hx 0 rfl (eH underlying3);obtain⟨l,hs,hw⟩:=gJ underlying24 hx 1 rfl Pa;match cs,hl with
 |[c0,c1],_=>
  simp[cC,Aa,wa]at ha hs;refine⟨⟨a,l⟩,?_,fun hh p hp=>?_⟩
  ·rw[ha.1];exact io (fw [a]) (jo hs)
  ·have:=hw hh p hp;unfold reachBytes at this;omega
theorem zZ:prog.cellsOf 30=4:=aK
theorem CK:prog.cellsOf 36=10:=aK
theorem UW [Flo]:Rd enc prog w base spare held 36 fun cs (c:Cmd)=>cj NM w (jp c) cs:=by
 intro fuel cs x hx;have hl:=kj underlying36 hx;rw[CK]at hl;obtain⟨o,ho⟩:=b8 underlying36 hx 0 rfl (eH underlying3);obtain⟨a,ha⟩:=b8 underlying36 hx 1 rfl (eH underlying3);obtain⟨b,hb⟩:=b8 underlying36 hx 2 rfl (eH underlying3);obtain⟨c,hc⟩:=b8 underlying36 hx 3 rfl (eH underlying3);obtain⟨p,hp⟩:=b8 underlying36 hx 4 rfl yS;obtain⟨r,hr⟩:=b8 underlying36 hx 5 rfl O8;match cs,hl with
 |[c0,c1,c2,c3,c4,c5,c6,c7,c8,c9],_=>
  simp[iC,cC,oI,wa,cP]at ho ha hb hc hp hr;refine⟨⟨o,a,b,c,p,r⟩,?_⟩;rw[ho.1,ha.1,hb.1,hc.1,hp.1,hp.2,hr.1,hr.2.1,hr.2.2.1,hr.2.2.2];exact fw [o,a,b,c,p.at_,p.len,r.min,r.max,r.usual,r.cool]
theorem Su [Flo]:zl enc prog w base spare held 36 (fun cs (c:Cmd)=>cj NM w (jp c) cs) (fun _=>True):=yR UW
theorem Ab:prog.cellsOf 28=2:=aK
theorem Pb [Flo][FlW w]:zl enc prog w base spare held 30 (fun cs (s:Ste)=>cj NM w (bJ s) cs) (fun s=>(∀p∈s.book.pools,p.leases.length<=3518437208882)/\rK s.net):=by
 intro fuel cs x hx;have hl:=kj underlying30 hx;rw[zZ]at hl;obtain⟨b,hb,hw⟩:=gJ underlying30 hx 0 rfl Ss;obtain⟨n,hn,hv⟩:=gJ underlying30 hx 1 rfl Sp;match cs,hl with
 |[c0,c1,c2,c3],_=>
  simp[tv,Ab]at hb hn;exact⟨⟨b,n⟩,io hb hn,fun h=>⟨hw h,hv h⟩⟩
end
end
end Go.Proofs.YtmicljipaiohkaaGreat
