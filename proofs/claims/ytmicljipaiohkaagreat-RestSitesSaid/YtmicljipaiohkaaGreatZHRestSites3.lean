/- Texts of this work, joined. -/
import Derived.Test.YtmicljipaiohkaaGreatZHRestSites2
import Derived.Shelf.Slices.SearchI
import Derived.IntWalk
import Derived.RangeFuncNested
import Derived.RangeFuncBound
import Derived.RangeFuncCalls
import Derived.RangeFuncLeaves
import Derived.Shelf.Abstract
import Derived.Shelf.RegionOpen
import Derived.OwnWalkIn
import Derived.TacticsInMore
import Derived.LoopNIn
import Derived.LoopIn
import Derived.Deep.RegionLaw
import Derived.Shelf.RegionOpenPlain
import Derived.Lib.Overlaps
import Derived.Lib.AppendZerosOnto
import Derived.Laws.Externs
import Derived.Lib.SliceRun
set_option linter.unusedSimpArgs false
set_option linter.unusedVariables false
set_option maxRecDepth 100000
set_option maxHeartbeats 16000000
namespace Go.Proofs.YtmicljipaiohkaaGreat
open Go Go.RowKit Go.Proofs.Tryz
open Go.Lib renaming hid → Xi
open _root_.List renaming getElem?_eq_getElem → Xj, mem_of_getElem? → Xk, map_cons → Xl, getElem?_eq_some_iff → Xm, map_append → Xn, length_take → Xo, map_nil → Xp, take_length → Xq, getElem?_map → Xr, length_map → Xs, length_cons → XC, all_eq_true → XD, mem_map → XF, pairwise_iff_getElem → XH, getElem?_append_right → XI, findIdx?_eq_some_iff_getElem → XK, take_of_length_le → XM, getElem?_eq_none → XN, length_drop → XO, getElem?_take_of_lt → XP, setIfInBounds_toArray → XQ, any_eq_true → XR, replicate → XS, set_cons_zero → XT, length_append → XV, getElem?_append_left → XW, length_nil → XX, mem_cons → XY, mem_iff_getElem → XZ, mem_append → X0, set_cons_succ → X2, append_assoc → X3, range → X4, cons_append → X5, getElem_of_mem → X7, nil_append → X8, eq_nil_of_length_eq_zero → X9, mem_singleton → Yc, mem_of_mem_drop → Yd, take → Ye, mem_of_mem_take → Yf, ext_getElem? → Yg, any_eq_false → Yh, getElem?_drop → Yk, getElem_mem → Yl, take_append_of_le_length → Ym, findIdx?_eq_none_iff → Yn, find?_eq_none → Yr, set_append_right → Yu, append_nil → Yv, getElem?_cons_succ → Yw, pairwise_cons → YA, mem_of_find?_eq_some → YC, size_toArray → YF, foldl_cons → YK, drop_eq_getElem_cons → YN, mem_range → YO, mem_cons_of_mem → YP, pairwise_append → YQ, flatten_cons → YR, take_append_drop → YV, filter_eq_self → YY, toList_toArray → YZ, map_congr_left → Y0, all_eq_false → Y2, pairwise_map → Y3, drop_length → Y6, mem_map_of_mem → Y7, length_pos_iff → Zb, find?_some → Zg, filter_filter → Zh, getElem?_take → Zi, foldl_append → Zo, mem_filter → Zv, getElem_take → ZD, take_succ_cons → ZF, append_toArray → ZG, map_take → ZK, mem_flatten → ZL, all_append → ZR, push_toArray → ZW, map_flatten → Z1, map_map → Z4, not_of_lt_findIdx → Z5, getElem_cons_drop → Z6, filter_congr → Z9, take_zero → p', findIdx_getElem → z', flatten_append → J', nodup_append → Z', take_sublist → _a, mem_toArray → _m, map_toArray → _p
open Go.World renaming size_alloc → Xt, heap_drewN → Xu, size_drew → Xy, cell? → YL, cell?_of_block → Zk, setRow → ZH
open _root_.Bool renaming and_eq_true → Xv, eq_iff_iff → Yi, true_and → Yp, and_self → Yq, and_true → Yx, false_eq_true → Yz, eq_false_iff → YB, or_eq_false_iff → Zl, not_eq_true' → Zq, not_eq_true → ZM, false_or → ZY, and_assoc → _b
open _root_.Nat renaming zero_add → Xw, reduceEqDiff → Xx, reduceAdd → Xz, le_refl → XA, zero_le → XE, add_zero → XG, lt_or_ge → XL, lt_of_lt_of_le → Ya, le_trans → Yj, mul_le_mul_right → Yt, not_lt_zero → Yy, sub_self → YE, le_of_eq → YW, succ_mul → YX, lt_trichotomy → Y9, sub_zero → Zs, min_self → Zt, eq_zero_or_pos → Zx, add_assoc → ZI, min → ZP, div_add_mod → ZQ, add_mul → ZT, reduceLT → ZV, min_def → B', le_of_lt → G', reduceSub → O', lt_or_eq_of_le → S', le_of_lt_succ → _c, one_le_two_pow → _i
open _root_.Option renaming map_eq_some_iff → XB, some → XU, map_some → Yb, isSome_some → YI, bind_some → Y5, isSome_none → Za, isSome_iff_exists → Ze, isNone_some → Zj, isNone_none → U'
open _root_.Array renaming getElem?_toList → X6, getElem?_eq_some_iff → Yo, getElem?_eq_none → YJ, getElem?_eq_getElem → YM, replicate → Y1, replicate_succ → ZB, replicate_zero → ZC, mem_of_getElem? → Z8, toList_map → F', toArray_toList → _f, range → _k
open _root_.Int renaming dvd_of_emod_eq_zero → YH, lt_irrefl → Zz, emod_eq_zero_of_dvd → ZE, le_refl → ZJ, toNat_of_nonneg → Z0, fdiv_eq_ediv_of_nonneg → A', lt_or_le → H', dvd_trans → N', max_eq_right → _o, max_eq_left → _r
def gq (n:Net)(id:Int):Option Vpc:=n.vpcs.find? fun v=>v.id==id
@[go_sem] def Uh (o:Option Vpc):D:=match o with|some v=> .tup [.ept (au v),.v (.bool true)]|none=> .tup [.v (.pointer none),.v (.bool false)]
theorem Ng {l:List Vpc}{id:Int}(hs:l.Pairwise fun a b=>a.id < b.id){v:Vpc}(hv:l[jV (fun v:Vpc=>v.id) id l]? =some v)(he:v.id=id):l.find? (fun v=>v.id==id)=some v:=by
 rw[List.find?_eq_some_iff_getElem];obtain⟨hlt,hg⟩:=Xm.1 hv;refine⟨by simpa using he,_,hlt,hg,fun j hj=>?_⟩;have:=XH.1 hs j _ aa hlt hj;rw[hg]at this;simp;omega
theorem QV {l:List Vpc}{id:Int}(hs:l.Pairwise fun a b=>a.id < b.id)(h:ss (fun v:Vpc=>v.id) id l=false):l.find? (fun v=>v.id==id)=none:=by
 rw[Yr];intro v hv he;have he2:v.id=id:=by simpa using he
 obtain⟨j,hj,rfl⟩:=XZ.1 hv;have h1:jV (fun v:Vpc=>v.id) id l=j:=rf aa (fun q hq hqj=>by
  have:=XH.1 hs q j hq hj hqj;show l[q].id < id;omega) (fun q hq hjq=>by
  show id<=l[q].id;rcases XL j q with h|h
  ·have:=XH.1 hs j q hj hq h;omega
  ·obtain rfl:q=j:=aa;omega)
 unfold ss at h;rw[h1,Xj hj]at h;simp[he2]at h
@[go_sem] def Ui (o:Option Vpc):PV:= .d (Uh o)
theorem Eu [Flo](n:Net)(id:Int)(hl:n.vpcs.length<=1000000000)(hs:n.vpcs.Pairwise fun a b=>a.id < b.id):MSpec prog 45 [.ptr 0 0,.d (.v (.int .i64 id))] [.box 28 ((cN n).map .d)] (Ui (gq n id)) [.box 28 ((cN n).map .d)]:=by
 have hb:=sK jy (fun v:Vpc=>v.id) n.vpcs id 112 [] hl hs (fun v _=>ww v id);unfold gq;cases hB:ss (fun v:Vpc=>v.id) id n.vpcs with
 |false=>
  rw[QV hs hB];rw[hB]at hb;clear hs;refine mj func45 ntmps45 results45 ?_;refine aq ?_<;>intros;all_goals exact aW rfl rfl
 |true=>
  obtain⟨v,hv,he⟩:∃v,n.vpcs[jV (fun v:Vpc=>v.id) id n.vpcs]? =some v/\v.id=id:=by
   unfold ss at hB;cases hq:n.vpcs[jV (fun v:Vpc=>v.id) id n.vpcs]? with
   |none=>rw[hq]at hB;cases hB
   |some v=>rw[hq]at hB;exact⟨v,rfl,by simpa using hB⟩
  rw[Ng hs hv he];rw[hB]at hb;clear hs;replace he:=Xi he;have hlt:=(Xm.1 hv).1;generalize jV (fun v:Vpc=>v.id) id n.vpcs=k at*;refine mj func45 ntmps45 results45 ?_;refine aq ?_<;>intros;all_goals exact aW rfl rfl
theorem Iv {ents:List (List Int × Int)}{a b r:Int}(hb:lB ents [b]=some b)(hr:r≠b):∀{n:Nat}{x:Int},lS ents n x r->lS (nd ents [b] a) n x r
 |0,x,h=>by
  obtain⟨h1,rfl⟩:=h;exact⟨by rw[iK,af (by simpa using fun e=>hr e.symm)];exact h1,rfl⟩
 |n+1,x,h=>by
  obtain⟨y,h1,h2,h3⟩:=h;have hx:b≠x:=fun e=>by subst e;rw[hb]at h1;exact h2 (XU.inj h1).symm
  exact⟨y,by rw[iK,af (by simpa using hx)];exact h1,h2,Iv hb hr h3⟩
theorem Ev {ents:List (List Int × Int)}{a b:Int}(ha:lB ents [a]=some a)(hb:lB ents [b]=some b)(gQ:a≠b):∀{n:Nat}{x:Int},lS ents n x b->lS (nd ents [b] a) (n+1) x a
 |0,x,h=>by
  obtain⟨h1,rfl⟩:=h;exact⟨a,by rw[iK,ah rfl],gQ,by rw[iK,af (by simpa using fun e=>gQ e.symm)];exact ha,rfl⟩
 |n+1,x,h=>by
  obtain⟨y,h1,h2,h3⟩:=h;have hx:b≠x:=fun e=>by subst e;rw[hb]at h1;exact h2 (XU.inj h1).symm
  exact⟨y,by rw[iK,af (by simpa using hx)];exact h1,h2,Ev ha hb gQ h3⟩
theorem ul {ents:List (List Int × Int)}{b r:Int}(hb:lB ents [b]=some b):∀{n:Nat}{x:Int},lS ents n x r->lS (nd ents [b] b) n x r
 |0,x,h=>by
  obtain⟨h1,rfl⟩:=h;refine⟨?_,rfl⟩;rw[iK];split
  ·rename_i e;simp at e;rw[e]
  ·exact h1
 |n+1,x,h=>by
  obtain⟨y,h1,h2,h3⟩:=h;refine⟨y,?_,h2,ul hb h3⟩;rw[iK,af]
  ·exact h1
  ·intro e;simp at e;subst e;rw[hb]at h1;exact h2 (XU.inj h1).symm
def Iw (ids:List Int)(ents:List (List Int × Int))(F:Int->Int):Prop:=∀x∈ids,(∃n,lS ents n x (F x))/\F x∈ids/\lB ents [F x]=some (F x)
def gr (F:Int->Int)(l:Lnk):Int->Int:=fun x=>if F x=F l.b then F l.a else F x
def qJ (s:List (List Int × Int) × (Int->Int))(l:Lnk):List (List Int × Int) × (Int->Int):=(nd s.1 [s.2 l.b] (s.2 l.a),gr s.2 l)
theorem Nh {ids:List Int}{ents:List (List Int × Int)}{F:Int->Int}{l:Lnk}(h:Iw ids ents F)(ha:l.a∈ids)(hb:l.b∈ids):Iw ids (nd ents [F l.b] (F l.a)) (gr F l):=by
 obtain⟨-,fa,ra⟩:=h l.a ha;obtain⟨-,fb,rb⟩:=h l.b hb;intro x hx;obtain⟨⟨n,hn⟩,fx,rx⟩:=h x hx;unfold gr;by_cases gQ:F l.a=F l.b
 ·rw[gQ];by_cases o3:F x=F l.b
  ·rw[ah o3,<-o3];exact⟨⟨n,ul rx hn⟩,fx,by rw[iK,ah rfl]⟩
  ·rw[af o3];exact⟨⟨n,ul rb hn⟩,fx,by rw[iK,af (by simpa using fun e=>o3 e.symm)];exact rx⟩
 ·by_cases o3:F x=F l.b
  ·rw[ah o3];rw[o3]at hn;exact⟨⟨n+1,Ev ra rb gQ hn⟩,fa,by rw[iK,af (by simpa using fun e=>gQ e.symm)];exact ra⟩
  ·rw[af o3];exact⟨⟨n,Iv rb o3 hn⟩,fx,by rw[iK,af (by simpa using fun e=>o3 e.symm)];exact rx⟩
def nC (vs:List Vpc):List (List Int × Int):=vs.foldl (fun e v=>nd e [v.id] v.id) []
theorem lT {α β:Type}{f:β->α->β}{b:β}{l:List α}{k:Nat}{x:α}(h:l[k]? =some x):(l.take (k+1)).foldl f b=f ((l.take k).foldl f b) x:=by rw[aj h,Zo];rfl
theorem Ni (l:List Vpc)(e:List (List Int × Int))(x:Int):lB (l.foldl (fun e v=>nd e [v.id] v.id) e) [x]=if x∈l.map (·.id)then some x else lB e [x]:=by
 induction l generalizing e with
 |nil=>simp
 |cons v l ih=>
  rw[YK,ih,iK];by_cases h1:x∈l.map (·.id)
  ·rw[ah h1,ah (by simp only[Xl,XY];exact .inr h1)]
  ·rw[af h1];by_cases h2:v.id=x
   ·subst h2;simp
   ·rw[af (by simpa using h2),af];simp only[Xl,XY,not_or];exact⟨fun e=>h2 e.symm,h1⟩
theorem Wk (vs:List Vpc):Iw (vs.map (·.id)) (nC vs) (fun x=>x):=fun x hx=>by
 have:=Ni vs [] x;rw[ah hx]at this;exact⟨⟨0,this,rfl⟩,hx,this⟩
def Wl (n:Net):List (List Int × Int) × (Int->Int):=n.links.foldl qJ (nC n.vpcs,fun x=>x)
theorem S9 {n:Net}(hl:∀l∈n.links,l.a∈n.vpcs.map (·.id)/\l.b∈n.vpcs.map (·.id))(k:Nat):Iw (n.vpcs.map (·.id)) ((n.links.take k).foldl qJ (nC n.vpcs,fun x=>x)).1 ((n.links.take k).foldl qJ (nC n.vpcs,fun x=>x)).2:=by
 induction k with
 |zero=>exact Wk n.vpcs
 |succ k ih=>
  by_cases hk:k < n.links.length
  ·have hx:=Xj hk;rw[lT hx];have:=hl _ (Yl hk);exact Nh ih this.1 this.2
  ·rw[XM aa]at ih ⊢;exact ih
def LV (pid:Int)(m:List (List Int × Int))(l:Lse):List (List Int × Int):=if l.kind=1 then nd m [l.at_.at_,l.at_.len,pid] l.owner else m
def Nj (m:List (List Int × Int))(p:Pol):List (List Int × Int):=p.leases.foldl (LV p.id) m
def vZ (b:Bok):List (List Int × Int):=b.pools.foldl Nj []
theorem Ix [Flo](b:Bok)(h1:b.pools.length<=1000000000)(h2:∀p∈b.pools,p.leases.length<=1000000000):
 MSpec prog 34 [.d (.agg (bj b))] [] (.mref 1) [.gone,.mp 3 true (vZ b)]:=by
 replace h2:=Xi h2;refine mj func34 ntmps34 results34 ?_;refine aq ?_;refine bq ag am b.pools (fun _=>True) (fun k=>[(12,.d (.v (.int .i64 k))),(11,.d (.v (.int .i64 b.pools.length))),(10,.d (.sl 9 (b.pools.map al))),(3,.mref 1)])
  (fun k=>[.gone,.mp 3 true ((b.pools.take k).foldl Nj [])]) trivial ?_ ?_ ?_
 ·exact(aJ 0 ak).trans wf
 ·intro k p hp hk _ C hC;have dF:(k:Int) < (b.pools.length:Int):=aa;have cX:=wi k aa;have gz:=h2.out p (Xk hp);have hs:(b.pools.take (k+1)).foldl Nj []=p.leases.foldl (LV p.id) ((b.pools.take k).foldl Nj []):=by rw[lT hp];rfl
  replace hs:=Xi hs;generalize (b.pools.take k).foldl Nj []=M at*;refine aq ?_;refine bq ag am p.leases (fun _=>True) (fun j=>[(19,.d (.v (.int .i64 j))),(18,.d (.v (.int .i64 p.leases.length))),(17,.d (.sl 5 (p.leases.map bc))),(5,.ptr 2 0),(12,.d (.v (.int .i64 k))),(11,.d (.v (.int .i64 b.pools.length))),(10,.d (.sl 9 (b.pools.map al))),(3,.mref 1)])
   (fun j=>[.gone,.mp 3 true ((p.leases.take j).foldl (LV p.id) M),.box 62 ((al p).map .d)]) trivial wf ?_ ?_
  ·intro j l hl hj _ D hD;have lh:(j:Int) < (p.leases.length:Int):=aa;have mW:=wi j aa;have ht:(p.leases.take (j+1)).foldl (LV p.id) M=if l.kind=1 then nd ((p.leases.take j).foldl (LV p.id) M) [l.at_.at_,l.at_.len,p.id] l.owner else (p.leases.take j).foldl (LV p.id) M:=by rw[lT hl];rfl
   generalize (p.leases.take j).foldl (LV p.id) M=Mj at*;by_cases qs:l.kind=1
   ·rw[ah qs]at ht;have e1:(l.kind==1)=true:=by simpa using qs
    replace ht:=Xi ht;replace qs:=Xi qs;refine aq ?_;exact hD _ _ trivial (wf (hh:=by rw[ht.out];rfl))
   ·rw[af qs]at ht;have e1:(l.kind==1)=false:=by simpa using qs
    replace ht:=Xi ht;replace qs:=Xi qs;refine aq ?_;exact hD _ _ trivial (wf (hh:=by rw[ht.out];rfl))
  ·intro _ D;rw[Xq];refine aq ?_;exact hC _ _ trivial (wf (hh:=by rw[hs.out];rfl))
 ·intro _ C;rw[Xq];refine aq ?_;exact aW rfl rfl
def Cg (E:List (List Int × Int))(id:Int)(r:Rng):Bool:=(lB E [r.at_.at_,r.at_.len,r.pool]).getD 0==id
def pA (vs:List Vpc):Nat:=(vs.map (·.ranges.length)).sum
def ig (vs:List Vpc)(o:Int):Bool:=vs.any (·.id==o)
def lU (E:List (List Int × Int))(vs:List Vpc):Bool:=vs.all fun v=>v.ranges.all (Cg E v.id)
def lV (E:List (List Int × Int))(p:Int->Bool)(i:Nat):Bool:=match E[i]? with|some kv=>p kv.2|none=>false
theorem GM (E:List (List Int × Int))(p:Int->Bool):(X4 E.length).countP (lV E p)=E.countP fun kv=>p kv.2:=by
 induction E with
 |nil=>rfl
 |cons a l ih=>
  rw[XC,List.range_succ_eq_map,List.countP_cons,List.countP_map,List.countP_cons];have:(lV (a::l) p∘Nat.succ)=lV l p:=by funext i;rfl
  rw[this,ih];rfl
theorem Kq {n:Nat}{seen:List Nat}(hn:seen.Nodup)(hl:∀i∈seen,i < n)(ha:∀i,i < n->i∈seen):seen.Perm (X4 n):=
 (List.perm_ext_iff_of_nodup hn List.nodup_range).2 fun i=>by
  rw[YO];exact⟨hl i,ha i⟩
theorem Nl {E:List (List Int × Int)}{p:Int->Bool}{seen:List Nat}(hn:seen.Nodup)(hl:∀i∈seen,i < E.length)(ha:∀i,i < E.length->i∈seen):seen.countP (lV E p)=E.countP fun kv=>p kv.2:=by
 rw[<-GM];exact List.Perm.countP_eq _ (Kq hn hl ha)
def Ew (n:Nat)(seen:List Nat):Nat:=((X4 n).filter fun i=>!seen.contains i).length
theorem Iy {n i:Nat}{seen:List Nat}(hi:i < n)(hs:i∉seen):Ew n (seen++[i]) < Ew n seen:=by
 unfold Ew;have yZ:((X4 n).filter fun j=>!(seen++[i]).contains j)=((X4 n).filter fun j=>!seen.contains j).filter (fun j=>!(j==i)):=by
  rw[Zh];refine Z9 fun j _=>?_;by_cases h:j=i
  ·subst h;simp
  ·by_cases h2:j∈seen<;>simp[h,h2]
 rw[yZ];refine List.length_filter_lt_length_iff_exists.2 ⟨i,?_,by simp⟩;rw[Zv];exact⟨YO.2 hi,by simpa using hs⟩
theorem Kr {vs:List Vpc}{k:Nat}{v:Vpc}(h:vs[k]? =some v):pA (vs.take (k+1))=pA (vs.take k)+v.ranges.length:=by
 unfold pA;rw[aj h,Xn,List.sum_append];simp
theorem QW {vs:List Vpc}{n:Nat}(h:∀v∈vs,v.ranges.length<=n):pA vs<=vs.length*n:=by
 induction vs with
 |nil=>simp[pA]
 |cons v vs ih=>
  have h1:=h v ak;have h2:=ih fun x hx=>h x (by simp[hx]);simp only[pA,Xl,List.sum_cons,XC]at*;rw[ZT];omega
theorem QZ (m:List (List Int × Int))(k:List Int)(v:Int):(nd m k v).length<=m.length+1:=by
 induction m with
 |nil=>simp[nd]
 |cons a m ih=>
  unfold nd;split
  ·simp
  ·simp only[XC];omega
theorem Q0 (l:List Lse)(pid:Int):∀(m:List (List Int × Int)),(l.foldl (LV pid) m).length<=m.length+l.length:=by
 induction l with
 |nil=>intro m;simp
 |cons a l ih=>
  intro m;rw[YK];have h1:=ih (LV pid m a);have h2:(LV pid m a).length<=m.length+1:=by
   unfold LV;split
   ·exact QZ _ _ _
   ·omega
  simp only[XC];omega
theorem Q9 {b:Bok}{n:Nat}(h:∀p∈b.pools,p.leases.length<=n):(vZ b).length<=b.pools.length*n:=by
 unfold vZ;have key:∀(l:List Pol) (m:List (List Int × Int)),(∀p∈l,p.leases.length<=n)->(l.foldl Nj m).length<=m.length+l.length*n:=by
  intro l;induction l with
  |nil=>intro m _;simp
  |cons a l ih=>
   intro m hl;rw[YK];have h1:=ih (Nj m a) fun p hp=>hl p (by simp[hp]);have h2:=Q0 a.leases a.id m;have h3:=hl a ak;simp only[XC];rw[ZT];unfold Nj at*;omega
 have:=key b.pools [] h;simpa using this
theorem a0E [Flo](n:Net)(h1:n.vpcs.length<=1000000000)(h2:n.links.length<=1000000000)(hl:∀l∈n.links,l.a∈n.vpcs.map (·.id)/\l.b∈n.vpcs.map (·.id)):
 MSpec prog 46 [.d (.ept (cN n))] [] (.mref 0) [.mp 1 false (Wl n).1]:=by
 have hg:=Xi (S9 hl);replace hl:=Xi hl;refine mj func46 ntmps46 results46 ?_;refine aq ?_<;>intros;refine bq ag am n.vpcs (fun _=>True) (fun k=>[(14,.d (.v (.int .i64 k))),(13,.d (.v (.int .i64 n.vpcs.length))),(12,.d (.sl 3 (n.vpcs.map au))),(3,.mref 0),(0,.d (.ept (cN n)))]) (fun k=>[.mp 1 false (nC (n.vpcs.take k))]) trivial (wf) ?_ ?_
 ·intro k v hv hk _ C hC;have dF:(k:Int) < (n.vpcs.length:Int):=aa;have cX:=wi k aa;have hs:nC (n.vpcs.take (k+1))=nd (nC (n.vpcs.take k)) [v.id] v.id:=lT hv;replace hs:=Xi hs;refine aq ?_<;>intros;exact hC _ _ trivial (wf (hh:=(by rw[hs.out];rfl)))
 ·intro _ C;rw[Xq];refine aq ?_<;>intros;refine bq ag am n.links (fun _=>True) (fun k=>[(29,.d (.v (.int .i64 k))),(28,.d (.v (.int .i64 n.links.length))),(27,.d (.sl 2 (n.links.map bS))),(3,.mref 0)]) (fun k=>[.mp 1 false ((n.links.take k).foldl qJ (nC n.vpcs,fun x=>x)).1]) trivial (wf) ?_ ?_
  ·intro k l kV hk _ C hC;have dF:(k:Int) < (n.links.length:Int):=aa;have cX:=wi k aa;have hs:((n.links.take (k+1)).foldl qJ (nC n.vpcs,fun x=>x)).1=nd ((n.links.take k).foldl qJ (nC n.vpcs,fun x=>x)).1 [((n.links.take k).foldl qJ (nC n.vpcs,fun x=>x)).2 l.b] (((n.links.take k).foldl qJ (nC n.vpcs,fun x=>x)).2 l.a):=by rw[lT kV];rfl
   have hm:=hl.out l (Xk kV);obtain⟨⟨na,ha⟩,-,-⟩:=hg.out k l.a hm.1;obtain⟨⟨nb,hb⟩,-,-⟩:=hg.out k l.b hm.2;generalize (n.links.take k).foldl qJ (nC n.vpcs,fun x=>x)=S at*;have hma:=Cf S.1 na l.a (S.2 l.a) ha;have hmb:=Cf S.1 nb l.b (S.2 l.b) hb;clear ha hb hm;replace hs:=Xi hs;have z1z:=Ln.mk (ls:=[0]) (hmb);have z2z:=Lm.mk (Ln.mk (ls:=[0]) (hma));refine fl ?_ ?_ ?_ ?_ ?_ ?_ ?_ ?_<;>first|(with_reducible exact True.intro)|intros
   exact hC _ _ trivial (wf (hh:=(by rw[hs.out];rfl)))
  ·intro _ C;rw[Xq];refine aq ?_<;>intros;all_goals exact aW rfl rfl
def bf (n:Net):Int->Int:=(Wl n).2
def kK (n:Net)(v w:Vpc):Bool:=(bf n v.id==bf n w.id)&&dK v w
def eS (n:Net):Bool:=(X4 n.vpcs.length).all fun k=>match n.vpcs[k]? with|some v=>(n.vpcs.take k).all fun w=>!kK n v w|none=>true
theorem um {n:Net}{i j:Nat}{v w:Vpc}(hij:j < i)(hv:n.vpcs[i]? =some v)(hw:n.vpcs[j]? =some w)(h:kK n v w=true):eS n=false:=by
 unfold eS;rw[Y2];refine⟨i,YO.2 (Xm.1 hv).1,?_⟩;rw[hv];simp only[ZM,Y2];exact⟨w,Xk (i:=j) (by rw[XP hij];exact hw),by rw[h];simp⟩
theorem ro {n:Net}(h:∀(i:Nat) (v w:Vpc),n.vpcs[i]? =some v->w∈n.vpcs.take i->kK n v w=false):eS n=true:=by
 unfold eS;rw[XD];intro i hi;have hl:=YO.1 hi;rw[Xj hl];simp only[XD];intro w hw;rw[h i _ w (Xj hl) hw];rfl
theorem Ci [Flo](n:Net)(h1:n.vpcs.length<=1000000000)(h2:n.links.length<=1000000000)(hr:∀v∈n.vpcs,v.ranges.length<=1000000000)(hl:∀l∈n.links,l.a∈n.vpcs.map (·.id)/\l.b∈n.vpcs.map (·.id)):
 ai prog 99 [.ept (cN n)] (.v (.bool (eS n))):=by
 have hof:=a0E n h1 h2 hl;have hg:∀x∈n.vpcs.map (·.id),∃k,lS (Wl n).1 k x (bf n x):=fun x hx=>by
  have:=(S9 hl n.links.length x (by exact hx)).1;rwa [Xq]at this
 replace hg:=Xi hg;replace hr:=Xi hr;clear hl;obtain⟨R,hR⟩:∃R,R=eS n:=⟨_,rfl⟩;rw[<-hR];replace hR:=Xi hR;generalize (Wl n).1=E at*;refine pj func99 ntmps99 results99 ?_;have z1z:=Ln.mk (ls:=[]) (hof);refine aq ?_<;>intros;clear hof;refine bq ag am n.vpcs (fun k=>∀(i:Nat) (v w:Vpc),i < k->n.vpcs[i]? =some v->w∈n.vpcs.take i->kK n v w=false) (fun k=>[(15,.d (.v (.int .i64 k))),(14,.d (.v (.int .i64 n.vpcs.length))),(13,.d (.sl 3 (n.vpcs.map au))),(3,.mref 0),(2,.d (.v (.bool false))),(0,.d (.ept (cN n)))]) (fun _=>[.mp 1 false E]) (fun i v w h=>absurd h (Yy _)) (wf) ?_ ?_
 ·intro k v hv hk hI C hC;have dF:(k:Int) < (n.vpcs.length:Int):=aa;have cX:=wi k aa;have wF:k<=n.vpcs.length:=aa;have tG:=Xk hv;have BB:=hr.out v tG;obtain⟨nv,hhv⟩:=hg.out v.id (XF.2 ⟨v,tG,rfl⟩);have hmv:=Cf E nv v.id (bf n v.id) hhv;have hlt:(n.vpcs.take k).length=k:=by rw[Xo];omega
  have pY:((n.vpcs.map au).take k).length=k:=by rw[<-ZK,Xs];exact hlt
  clear hhv;replace hI:=Xi hI;refine aq ?_<;>intros;refine bq ag am (n.vpcs.take k) (fun j=>∀w∈(n.vpcs.take k).take j,kK n v w=false) (fun j=>[(27,.d (.v (.int .i64 j))),(26,.d (.v (.int .i64 k))),(25,.d (.sl 3 ((n.vpcs.map au).take k))),(5,.ptr 1 0),(15,.d (.v (.int .i64 k))),(14,.d (.v (.int .i64 n.vpcs.length))),(13,.d (.sl 3 (n.vpcs.map au))),(3,.mref 0),(2,.d (.v (.bool false))),(0,.d (.ept (cN n)))]) (fun _=>[.mp 1 false E,.box 55 ((au v).map .d)]) (fun w hw=>by simp at hw) (wf) ?_ ?_
  ·intro j w hw hj hJ C2 jU;have lh:(j:Int) < (k:Int):=aa;have qP:((n.vpcs.map au).take k)[j]? =some (au w):=by rw[<-ZK,Xr,hw];rfl
   have mW:=wi j aa;have CY:j < k:=aa;have cM:n.vpcs[j]? =some w:=by rw[XP CY]at hw;exact hw
   have CZ:=Xk cM;have hrw:=hr.out w CZ;obtain⟨nw,hhw⟩:=hg.out w.id (XF.2 ⟨w,CZ,rfl⟩);have hmw:=Cf E nw w.id (bf n w.id) hhw;have gB:=QT v w BB hrw;have bE:kK n v w=true->R=false:=fun h=>by rw[hR.out];exact um CY hv cM h
   have tH:kK n v w=false->∀u∈(n.vpcs.take k).take (j+1),kK n v u=false:=fun h u hu=>by
    rw[aj hw]at hu;rcases X0.1 hu with hu|hu
    ·exact hJ u hu
    ·rw[Yc.1 hu];exact h
   have iI:kK n v w=((bf n v.id==bf n w.id)&&dK v w):=rfl;clear hhw hlt pY;replace bE:=Xi bE;replace tH:=Xi tH;replace iI:=Xi iI;replace hJ:=Xi hJ;replace hw:=Xi hw;generalize (n.vpcs.map au).take k=L at*;cases e1:(bf n v.id==bf n w.id)with
   |false=>
    have hf:=Xi (tH.out (by rw[iI.out,e1];rfl));have z1z:=Ln.mk (ls:=[0]) (hmv);have z2z:=Lm.mk (Ln.mk (ls:=[0]) (hmw));refine fl ?_ ?_ ?_ ?_ ?_ ?_ ?_ ?_<;>first|(with_reducible exact True.intro)|intros
    exact jU _ _ hf.out (wf)
   |true=>
    cases e2:dK v w with
    |true=>
     have hb:R=false:=bE.out (by rw[iI.out,e1,e2];rfl);rw[hb];replace hb:=Xi hb;rw[e2]at gB;have z1z:=Ln.mk (ls:=[0]) (hmv);have z2z:=Lm.mk (Ln.mk (ls:=[0]) (hmw));refine fl ?_ ?_ ?_ ?_ ?_ ?_ ?_ ?_<;>first|(with_reducible exact True.intro)|intros
     all_goals exact aO.refl _
    |false=>
     have hf:=Xi (tH.out (by rw[iI.out,e1,e2];rfl));rw[e2]at gB;have z1z:=Ln.mk (ls:=[0]) (hmv);have z2z:=Lm.mk (Ln.mk (ls:=[0]) (hmw));refine fl ?_ ?_ ?_ ?_ ?_ ?_ ?_ ?_<;>first|(with_reducible exact True.intro)|intros
     exact jU _ _ hf.out (wf)
  ·intro hJ C2;rw[Xq]at hJ;have mY:∀(i:Nat) (u w:Vpc),i < k+1->n.vpcs[i]? =some u->w∈n.vpcs.take i->kK n u w=false:=fun i u w hi hu hw=>by
    rcases XL i k with h|h
    ·exact hI.out i u w h hu hw
    ·obtain rfl:i=k:=aa;rw[hv]at hu;rw[<-XU.inj hu];exact hJ w hw
   replace mY:=Xi mY;replace hJ:=Xi hJ;rw[hlt];refine aq ?_<;>intros;exact hC _ _ mY.out (wf)
 ·intro hI C;have hb:R=true:=by
   rw[hR.out];exact ro fun i v w hv hw=>hI i v w (Xm.1 hv).1 hv hw
  rw[hb];replace hb:=Xi hb;replace hI:=Xi hI;exact aY;all_goals exact aO.refl _
def lW (n:Net)(l:Lnk):Bool:=(gq n l.a).isSome&&((gq n l.b).isSome&&decide (l.a < l.b))
def jS:List Lnk->Bool
 |l::m::ls=>decide (sJ l m < 0)&&jS (m::ls)
 |_=>true
theorem Cj:∀(l:List Lnk),jS l=true↔∀j (h:j+1 < l.length),sJ l[j] l[j+1] < 0
 |[]=>by simp[jS]
 |[a]=>by simp[jS]
 |a::b::l=>by
  have ih:=Cj (b::l);simp only[jS,Xv,decide_eq_true_eq,ih];constructor
  ·exact a2D
  ·exact a3p
def pB (n:Net):Bool:=n.vpcs.all (fun v=>bM v==0)&&fJ (·.id) n.vpcs
def cJ (n:Net):Int:=if n.vpcs.length>6\/n.links.length>12 then 2 else if pB n&&(n.links.all (lW n)&&(jS n.links&&eS n))then 0 else 1
theorem gu {n:Net}{x:Int}(h:(gq n x).isSome=true):x∈n.vpcs.map (·.id):=by
 obtain⟨v,hv⟩:=Ze.1 h;unfold gq at hv;have h1:=YC hv;have h2:=Zg hv;exact XF.2 ⟨v,h1,by simpa using h2⟩
theorem iO {n:Net}(h0:¬(n.vpcs.length>6\/n.links.length>12))(h:pB n=false\/n.links.all (lW n)=false\/jS n.links=false\/eS n=false):cJ n=1:=by
 unfold cJ;rw[af h0];rcases h with h|h|h|h<;>simp[h]
theorem un {n:Net}(h0:¬(n.vpcs.length>6\/n.links.length>12))(h1:pB n=true)(h2:n.links.all (lW n)=true)(h3:jS n.links=true)(h4:eS n=true):cJ n=0:=by
 unfold cJ;rw[af h0,h1,h2,h3,h4];rfl
theorem a2v {p:Prop}(h:p:=by
 rw[eb]at mB;replace eb:=Xi eb;have z1z:=Ln.mk (ls:=[0]) (j1);have z2z:=Lm.mk (Ln.mk (ls:=[0]) (mB));refine fl ?_ ?_ ?_ ?_ ?_ ?_ ?_ ?_<;>first|(with_reducible exact True.intro)|intros
 all_goals exact aO.refl _):p:=h
theorem a3k {p:Prop}(h:p:=by
  rw[hR.out];refine iO bQ (.inl ?_);cases hb:pB n with
  |false=>rfl
  |true=>exact absurd ((lX hb (k+1)).1 v (by rw[iV];simp)) hc):p:=h
theorem a3s {p:Prop}(h:p:=by
 rw[hR.out];refine iO bQ (.inr (.inr (.inl ?_)));cases hb:jS n.links with
 |false=>rfl
 |true=>rw[A4 hb]at h;cases h):p:=h
theorem a3D {p:Prop}(h:p:=by
 refine⟨?_,g⟩;rw[iV];intro u hu;rcases X0.1 hu with hu|hu
 ·exact hJ.1 u hu
 ·rw[Yc.1 hu];exact h):p:=h
theorem a3Z {p:Prop}(h:p:=by
  rw[hR.out];refine iO bQ (.inr (.inl ?_));rw[Y2];exact⟨l,Xk hl,by simp[h]⟩):p:=h
theorem a4y {p:Prop}(h:p:=by
 rw[hp]at Jp;replace hp:=Xi hp;exact aY;all_goals exact aO.refl _):p:=h
def mH (l:List Vpc):Int:=(l.getLast?.map (·.id)).getD 0
theorem rq (l:List Vpc)(v:Vpc):mH (l++[v])=v.id:=by simp[mH]
theorem xK {l:List Vpc}(hs:l.Pairwise fun a b=>a.id < b.id){v:Vpc}(h:mH l < v.id):(l++[v]).Pairwise fun a b=>a.id < b.id:=by
 rw[YQ];refine⟨hs,by simp,fun a ha b hb=>?_⟩;rw[Yc.1 hb];rcases List.eq_nil_or_concat l with rfl|⟨l',x,rfl⟩
 ·cases ha
 ·rw[List.concat_eq_append]at*;rw[rq]at h;rw[YQ]at hs;rcases X0.1 ha with ha|ha
  ·have:=hs.2.2 a ha x ak;omega
  ·rw[Yc.1 ha];exact h
theorem A3 {l:List Vpc}{v:Vpc}(hv:1<=v.id)(h:v.id<=mH l):¬(l++[v]).Pairwise fun a b=>a.id < b.id:=by
 intro hp;rw[YQ]at hp;rcases List.eq_nil_or_concat l with rfl|⟨l',x,rfl⟩
 ·simp[mH]at h;omega
 ·rw[List.concat_eq_append]at*;rw[rq]at h;have:=hp.2.2 x ak v ak;omega
theorem lX {n:Net}(h:pB n=true)(k:Nat):(∀v∈n.vpcs.take k,bM v=0)/\(n.vpcs.take k).Pairwise fun a b=>a.id < b.id:=by
 unfold pB at h;simp only[Xv,XD,gG,beq_iff_eq]at h;exact⟨fun v hv=>h.1 v (Yf hv),h.2.sublist (_a _ _)⟩
theorem xL {n:Net}(h1:∀v∈n.vpcs,bM v=0)(h2:n.vpcs.Pairwise fun a b=>a.id < b.id):pB n=true:=by
 unfold pB;simp only[Xv,XD,gG,beq_iff_eq];exact⟨h1,h2⟩
theorem uq:∀(l:List Lnk) (x:Lnk),jS (l++[x])=(jS l&&(match l.getLast? with|some y=>decide (sJ y x < 0)|none=>true))
 |[],x=>rfl
 |[a],x=>by simp[jS]
 |a::b::l,x=>by
  have ih:=uq (b::l) x;have e:(a::b::l).getLast? =(b::l).getLast? :=by simp[List.getLast?_cons_cons]
  rw[X5,X5,jS,<-X5,ih,e,jS,_b]
theorem A4 {l:List Lnk}(h:jS l=true)(k:Nat):jS (l.take k)=true:=by
 rw[Cj]at h ⊢;intro j hj;rw[ZD,ZD];exact h j (by rw[Xo]at hj;omega)
theorem ur {α:Type}{l:List α}{j:Nat}{y:α}(h:l[j]? =some y):(l.take (j+1)).getLast? =some y:=by rw[aj h];simp
theorem xM [Flo](n:Net):ai prog 33 [.agg (cN n)] (.v (.int .i64 (cJ n))):=by
 obtain⟨R,hR⟩:∃R,R=cJ n:=⟨_,rfl⟩;rw[<-hR];replace hR:=Xi hR;by_cases h6:n.vpcs.length>6
 ·have h6I:decide ((n.vpcs.length:Int)>6)=true:=aN;have hr:R=2:=by rw[hR.out,cJ,ah (.inl h6)]
  rw[hr];replace hr:=Xi hr;refine pj func33 ntmps33 results33 ?_;exact aY;all_goals exact aO.refl _
 by_cases Pu:n.links.length>12
 ·have h6I:decide ((n.vpcs.length:Int)>6)=false:=aN;have Va:decide ((n.links.length:Int)>12)=true:=aN;have hr:R=2:=by rw[hR.out,cJ,ah (.inr Pu)]
  rw[hr];replace hr:=Xi hr;refine pj func33 ntmps33 results33 ?_;exact aY;all_goals exact aO.refl _
 have h6I:decide ((n.vpcs.length:Int)>6)=false:=aN;have Va:decide ((n.links.length:Int)>12)=false:=aN;have bQ:¬(n.vpcs.length>6\/n.links.length>12):=aa;refine pj func33 ntmps33 results33 ?_;refine aq ?_<;>intros;refine bq ag am n.vpcs (fun k=>(∀v∈n.vpcs.take k,bM v=0)/\(n.vpcs.take k).Pairwise fun a b=>a.id < b.id) (fun k=>[(25,.d (.v (.int .i64 k))),(24,.d (.v (.int .i64 n.vpcs.length))),(23,.d (.sl 3 (n.vpcs.map au))),(3,.d (.v (.int .i64 (mH (n.vpcs.take k))))),(2,.d (.v (.int .i64 0))),(1,.ptr 0 0)]) (fun _=>[.box 28 ((cN n).map .d)]) ak (wf) ?_ ?_
 ·intro k v hv hk hI C hC;have dF:(k:Int) < (n.vpcs.length:Int):=aa;have cX:=wi k aa;have iV:=aj hv;have C7:mH (n.vpcs.take (k+1))=v.id:=by rw[iV,rq]
  have hcv:=py v;obtain⟨LA,Vb⟩:∃x,x=mH (n.vpcs.take k):=⟨_,rfl⟩;rw[<-Vb];by_cases hc:bM v=0
  ·have hid:1<=v.id:=by have:=(be hc).id;simp[cD]at this;exact this.1
   rw[hc]at hcv;by_cases hle:v.id<=LA
   ·have hr:R=1:=by
     rw[hR.out];refine iO bQ (.inl ?_);cases hb:pB n with
     |false=>rfl
     |true=>
      have:=(lX hb (k+1)).2;rw[iV]at this;exact absurd this (A3 hid (by rw[<-Vb];exact hle))
    rw[hr];clear hr hI hid hC Vb C7 iV;replace hc:=Xi hc;exact aY;all_goals exact aO.refl _
   ·have mY:(∀v∈n.vpcs.take (k+1),bM v=0)/\(n.vpcs.take (k+1)).Pairwise fun a b=>a.id < b.id:=by
     rw[iV];exact⟨fun u hu=>by
      rcases X0.1 hu with hu|hu
      ·exact hI.1 u hu
      ·rw[Yc.1 hu];exact hc,xK hI.2 (by rw[<-Vb];omega)⟩
    have j0:decide (v.id<=LA)=false:=by simpa using hle
    clear hI hid iV;replace hc:=Xi hc;replace hle:=Xi hle;replace mY:=Xi mY;replace C7:=Xi C7;replace Vb:=Xi Vb;refine aq ?_<;>intros;refine hC _ _ mY.out ?_;simp only[C7.out];exact wf
  ·have hr:R=1:=a3k
   have hcb:(bM v !=0)=true:=by simpa using hc
   rw[hr];clear hr hI hC Vb C7 iV;replace hc:=Xi hc;exact aY;all_goals exact aO.refl _
 ·intro hI C;rw[Xq]at hI ⊢;have Pv:=xL hI.1 hI.2;have oY:=hI.2;generalize mH n.vpcs=LA;replace hI:=Xi hI;replace oY:=Xi oY;replace Pv:=Xi Pv;refine aq ?_<;>intros;refine bq ag am n.links (fun k=>(∀l∈n.links.take k,lW n l=true)/\jS (n.links.take k)=true) (fun k=>[(44,.d (.v (.int .i64 k))),(43,.d (.v (.int .i64 n.links.length))),(42,.d (.sl 2 (n.links.map bS))),(2,.d (.v (.int .i64 0))),(1,.ptr 0 0)]) (fun _=>[.box 28 ((cN n).map .d)]) (by simp[jS]) (wf) ?_ ?_
  ·intro k l hl hk hJ C hC;have dF:(k:Int) < (n.links.length:Int):=aa;have cX:=wi k aa;have iV:=aj hl;have j1:=Eu n l.a aa oY.out;have mB:=Eu n l.b aa oY.out;have bE:lW n l=false->R=1:=fun h=>a3Z
   have j0:lW n l=((gq n l.a).isSome&&((gq n l.b).isSome&&decide (l.a < l.b))):=rfl;have iJ:lW n l=true->jS (n.links.take (k+1))=true->(∀l∈n.links.take (k+1),lW n l=true)/\jS (n.links.take (k+1))=true:=fun h g=>a3D
   have zd:jS (n.links.take (k+1))=false->R=1:=fun h=>a3s
   have uM:=uq (n.links.take k) l;rw[<-iV,hJ.2,Yp]at uM;clear iV;replace hJ:=Xi hJ;replace bE:=Xi bE;replace zd:=Xi zd;replace iJ:=Xi iJ;cases ea:gq n l.a with
   |none=>
    rw[ea]at j1 j0;have hr:R=1:=bE.out (by rw[j0];rfl);rw[hr];clear hr j0 uM;replace ea:=Xi ea;cases eb:gq n l.b with
    |none=>exact a2v
    |some w=>exact a2v
   |some v=>
    rw[ea]at j1 j0;replace ea:=Xi ea;cases eb:gq n l.b with
    |none=>
     rw[eb]at mB j0;have hr:R=1:=bE.out (by rw[j0];rfl);rw[hr];clear hr j0 uM;replace eb:=Xi eb;have z1z:=Ln.mk (ls:=[0]) (j1);have z2z:=Lm.mk (Ln.mk (ls:=[0]) (mB));refine fl ?_ ?_ ?_ ?_ ?_ ?_ ?_ ?_<;>first|(with_reducible exact True.intro)|intros
     all_goals exact aO.refl _
    |some w=>
     rw[eb]at mB j0;replace eb:=Xi eb;by_cases gQ:l.a < l.b
     ·have hge:decide (l.a>=l.b)=false:=aN;have hlt:lW n l=true:=by rw[j0];simp[gQ]
      clear j0;replace hlt:=Xi hlt;by_cases hk0:k=0
      ·have hkz:decide ((k:Int)>0)=false:=aN;have hg:=iJ.out hlt.out (by rw[uM,hk0];rfl);clear uM;replace hg:=Xi hg;replace hk0:=Xi hk0;replace gQ:=Xi gQ;have z1z:=Ln.mk (ls:=[0]) (j1);have z2z:=Lm.mk (Ln.mk (ls:=[0]) (mB));refine fl ?_ ?_ ?_ ?_ ?_ ?_ ?_ ?_<;>first|(with_reducible exact True.intro)|intros
       exact hC _ _ hg.out (wf)
      ·obtain⟨j,hj⟩:∃j,k=j+1:=⟨k - 1,by omega⟩;obtain⟨y,hy⟩:∃y,n.links[j]? =some y:=⟨_,Xj aa⟩;have hkz:decide ((k:Int)>0)=true:=aN;have co:IntKind.i64.wrap ((k:Int) - 1)=(j:Int):=by rw[IntKind.wrap_i64];omega
       have lh:(j:Int) < (n.links.length:Int):=aa;have hor:=QU y l;rw[hj,ur hy]at uM;simp only at uM;rw[<-hj]at uM;replace hj:=Xi hj;replace hk0:=Xi hk0;replace gQ:=Xi gQ;by_cases ho:sJ y l < 0
       ·have hg:=iJ.out hlt.out (by rw[uM];simpa using ho);have iE:decide (sJ y l>=0)=false:=by simpa using ho
        clear uM;replace hg:=Xi hg;replace ho:=Xi ho;generalize sJ y l=O at*;have z1z:=Ln.mk (ls:=[0]) (j1);have z2z:=Lm.mk (Ln.mk (ls:=[0]) (mB));refine fl ?_ ?_ ?_ ?_ ?_ ?_ ?_ ?_<;>first|(with_reducible exact True.intro)|intros
        exact hC _ _ hg.out (wf)
       ·have hr:R=1:=zd.out (by rw[uM];simpa using ho);have iE:decide (sJ y l>=0)=true:=by simpa using ho
        rw[hr];clear uM hr;replace ho:=Xi ho;generalize sJ y l=O at*;have z1z:=Ln.mk (ls:=[0]) (j1);have z2z:=Lm.mk (Ln.mk (ls:=[0]) (mB));refine fl ?_ ?_ ?_ ?_ ?_ ?_ ?_ ?_<;>first|(with_reducible exact True.intro)|intros
        all_goals exact aO.refl _
     ·have hge:decide (l.a>=l.b)=true:=aN;have hr:R=1:=bE.out (by rw[j0];simp;omega);rw[hr];clear hr j0 uM;replace gQ:=Xi gQ;have z1z:=Ln.mk (ls:=[0]) (j1);have z2z:=Lm.mk (Ln.mk (ls:=[0]) (mB));refine fl ?_ ?_ ?_ ?_ ?_ ?_ ?_ ?_<;>first|(with_reducible exact True.intro)|intros
      all_goals exact aO.refl _
  ·intro hJ C;rw[Xq]at hJ;have Jp:=Ci n aa aa (fun v hv=>by have:=(be (hI.out.1 v hv)).n4;omega) (fun l hl=>by
    have:=hJ.1 l hl;unfold lW at this;simp only[Xv]at this;exact⟨gu this.1,gu this.2.1⟩)
   have hr:R=if eS n=true then 0 else 1:=by
    rw[hR.out];split
    ·rename_i hp;exact un bQ Pv.out (by rw[XD];exact hJ.1) hJ.2 hp
    ·rename_i hp;exact iO bQ (.inr (.inr (.inr (by simpa using hp))))
   rw[hr];clear hr;replace hJ:=Xi hJ;cases hp:eS n with
   |true=>exact a4y
   |false=>exact a4y
structure NetOK (n:Net):Prop where
 n6:n.vpcs.length<=6
 n12:n.links.length<=12
 vp:∀v∈n.vpcs,bM v=0
 rise:n.vpcs.Pairwise fun a b=>a.id < b.id
 lk:∀l∈n.links,lW n l=true
 rk:jS n.links=true
 pe:eS n=true
theorem gw {n:Net}:cJ n=0↔NetOK n:=by
 constructor
 ·intro h;unfold cJ at h;split at h
  ·cases h
  ·rename_i h0;split at h
   ·rename_i h1;simp only[Xv]at h1;have:=lX h1.1 n.vpcs.length;rw[Xq]at this;exact⟨by omega,by omega,this.1,this.2,by simpa using h1.2.1,h1.2.2.1,h1.2.2.2⟩
   ·cases h
 ·rintro⟨a,b,c,d,e,f,g⟩;exact un aa (xL c d) (by simpa using e) f g
theorem NetOK.ids {n:Net}(h:NetOK n):∀l∈n.links,l.a∈n.vpcs.map (·.id)/\l.b∈n.vpcs.map (·.id):=fun l hl=>by
 have:=h.lk l hl;unfold lW at this;simp only[Xv]at this;exact⟨gu this.1,gu this.2.1⟩
theorem A5 [Flo]{α:Type}{enc:α->List D}(cU:∀x,(enc x).length=9)(p:α->Bool)(l:List α)(g:Nat)(caps:List D)(hl:l.length<=1000000000)(hc:∀x∈l,ai prog g (.agg (enc x)::caps) (.v (.bool (p x)))):
 ai prog 199 [.sl 9 (l.map enc),.clo g caps] (.v (.int .i64 (cq p l))):=by
 refine pj func199 ntmps199 results199 ?_;refine aq ?_<;>intros;refine bL ag am (fun m e h=>∃k:Nat,k<=l.length/\(∀x∈l.take k,p x=false)/\m=l.length - k/\e=[(8,.d (.v (.int .i64 k))),(7,.d (.v (.int .i64 l.length))),(4,.d (.v (.int .i64 0))),(1,.d (.clo g caps)),(0,.d (.sl 9 (l.map enc)))]/\h=[]) _ _ _ ⟨0,XE _,by simp,rfl,rfl,rfl⟩ ?_ ?_
 ·exact a2e
 ·exact gt
theorem Ks [Flo]{α:Type}{enc:α->List D}(cU:∀x,(enc x).length=9)(p:α->Bool)(l:List α)(g:Nat)(caps:List D)(hl:l.length<=1000000000)(hc:∀x∈l,ai prog g (.agg (enc x)::caps) (.v (.bool (p x)))):
 ai prog 117 [.sl 9 (l.map enc),.clo g caps] (.v (.bool (l.any p))):=by
 have hi:=A5 cU p l g caps hl hc;have jO:=gp p l;refine pj func117 ntmps117 results117 ?_;exact aY;all_goals exact aO.refl _
theorem ot [Flo]{α:Type}{enc:α->List D}(cU:∀x,(enc x).length=5)(p:α->Bool)(l:List α)(g:Nat)(caps:List D)(hl:l.length<=1000000000)(hc:∀x∈l,ai prog g (.agg (enc x)::caps) (.v (.bool (p x)))):
 ai prog 124 [.sl 5 (l.map enc),.clo g caps] (.v (.int .i64 (cq p l))):=by
 refine pj func124 ntmps124 results124 ?_;refine aq ?_<;>intros;refine bL ag am (fun m e h=>∃k:Nat,k<=l.length/\(∀x∈l.take k,p x=false)/\m=l.length - k/\e=[(8,.d (.v (.int .i64 k))),(7,.d (.v (.int .i64 l.length))),(4,.d (.v (.int .i64 0))),(1,.d (.clo g caps)),(0,.d (.sl 5 (l.map enc)))]/\h=[]) _ _ _ ⟨0,XE _,by simp,rfl,rfl,rfl⟩ ?_ ?_
 ·exact a2e
 ·exact gt
theorem rt [Flo]{α:Type}{enc:α->List D}(cU:∀x,(enc x).length=5)(p:α->Bool)(l:List α)(g:Nat)(caps:List D)(hl:l.length<=1000000000)(hc:∀x∈l,ai prog g (.agg (enc x)::caps) (.v (.bool (p x)))):
 ai prog 92 [.sl 5 (l.map enc),.clo g caps] (.v (.bool (l.any p))):=by
 have hi:=ot cU p l g caps hl hc;have jO:=gp p l;refine pj func92 ntmps92 results92 ?_;exact aY;all_goals exact aO.refl _
theorem a3B {p:Prop}(h:p:=by
 refine pj func228 ntmps228 results228 ?_;have z1z:=lq a;have z2z:=lq b;exact aY;all_goals exact aO.refl _):p:=h
theorem Nm [Flo](a b:Int):ai prog 228 [.v (.int .i64 a),.v (.int .i64 b)] (.v (.bool (decide (a < b)))):=by
 cases h:decide (a < b)with
 |true=>exact a3B
 |false=>exact a3B
theorem ut [Flo]{α:Type}{enc:α->List D}(cU:∀x,(enc x).length=9)(key:α->Int)(l:List α)(t:Int)(g:Nat)(caps:List D)(hl:l.length<=1000000000)(hs:l.Pairwise fun a b=>key a < key b)(hc:∀x∈l,ai prog g (.agg (enc x):: .v (.int .i64 t)::caps) (.v (.int .i64 (eN (key x) t)))):
 ai prog 197 [.sl 9 (l.map enc),.v (.int .i64 t),.clo g caps] (.tup [.v (.int .i64 (jV key t l)),.v (.bool (ss key t l))]):=by
 refine pj func197 ntmps197 results197 ?_;refine aq ?_<;>intros;refine bL ag am (fun m e h=>∃i j:Nat,i<=j/\j<=l.length/\(∀q (hq:q < l.length),q < i->key l[q] < t)/\(∀q (hq:q < l.length),j<=q->t<=key l[q])/\m=j - i/\
  e=[(10,.d (.v (.int .i64 j))),(9,.d (.v (.int .i64 i))),(8,.d (.v (.int .i64 l.length))),(7,.d (.v (.bool false))),(6,.d (.v (.int .i64 0))),(2,.d (.clo g caps)),(1,.d (.v (.int .i64 t))),(0,.d (.sl 9 (l.map enc)))]/\h=[]) _ _ _ ⟨0,l.length,XE _,XA _,fun q hq h=>absurd h (Yy _),fun q hq h=>by omega,rfl,rfl,rfl⟩ ?_ ?_
 ·exact a2U
 ·exact mt
theorem GN [Flo]{α:Type}{enc:α->List D}(cU:∀x,(enc x).length=5)(key:α->Int)(l:List α)(t:Int)(g:Nat)(caps:List D)(hl:l.length<=1000000000)(hs:l.Pairwise fun a b=>key a < key b)(hc:∀x∈l,ai prog g (.agg (enc x):: .v (.int .i64 t)::caps) (.v (.int .i64 (eN (key x) t)))):
 ai prog 202 [.sl 5 (l.map enc),.v (.int .i64 t),.clo g caps] (.tup [.v (.int .i64 (jV key t l)),.v (.bool (ss key t l))]):=by
 refine pj func202 ntmps202 results202 ?_;refine aq ?_<;>intros;refine bL ag am (fun m e h=>∃i j:Nat,i<=j/\j<=l.length/\(∀q (hq:q < l.length),q < i->key l[q] < t)/\(∀q (hq:q < l.length),j<=q->t<=key l[q])/\m=j - i/\
  e=[(10,.d (.v (.int .i64 j))),(9,.d (.v (.int .i64 i))),(8,.d (.v (.int .i64 l.length))),(7,.d (.v (.bool false))),(6,.d (.v (.int .i64 0))),(2,.d (.clo g caps)),(1,.d (.v (.int .i64 t))),(0,.d (.sl 5 (l.map enc)))]/\h=[]) _ _ _ ⟨0,l.length,XE _,XA _,fun q hq h=>absurd h (Yy _),fun q hq h=>by omega,rfl,rfl,rfl⟩ ?_ ?_
 ·exact a2U
 ·exact mt
section
open Go.Proofs
section
variable {w:World}{b o:Nat}{c0 c1 c2 c3 c4 c5 c6 c7 c8:Value}
theorem ke (h:mD w b o [c0,c1]):w.cell? ⟨b,o,none⟩=some c0/\w.cell? ⟨b,o+1,none⟩=some c1:=⟨h 0 ak,h 1 ak⟩
end
theorem fd {w w':World}{b o:Nat}{cs:List Value}(hx:dy w w')(h:mD w b o cs):mD w' b o cs:=fun j hj=>bZ hx (h j hj)
theorem Sl.ext {α:Type}{A:mZ}{w w':World}{k:Nat}{R:List Value->α->Prop}{ao:Option Addr}{cap:Nat}{l:List α}(h:Sl A w k R ao cap l)(hx:dy w w'):Sl A w' k R ao cap l:=by
 refine⟨h.cap_le,h.cap_max,fun i hi=>?_⟩;obtain⟨b,off,cs,h1,h2,h3,h4,h5⟩:=h.elem i hi;exact⟨b,off,cs,h1,h2,h3,h4,fd hx h5⟩
theorem Sl.nil {α:Type}{A:mZ}{w:World}{k:Nat}{R:List Value->α->Prop}{ao:Option Addr}{cap:Nat}(h:cap<=9223372036854775807):Sl A w k R ao cap ([]:List α):=
 ⟨XE _,h,fun i hi=>by simp at hi⟩
theorem Sl.take {α:Type}{A:mZ}{w:World}{k:Nat}{R:List Value->α->Prop}{ao:Option Addr}{cap:Nat}{l:List α}(h:Sl A w k R ao cap l)(n:Nat):Sl A w k R ao cap (l.take n):=by
 refine⟨Yj (List.length_take_le' n l) h.cap_le,h.cap_max,fun i hi=>?_⟩;have hi':i < l.length:=by rw[Xo]at hi;omega
 obtain⟨b,off,cs,h1,h2,h3,h4,h5⟩:=h.elem i hi';exact⟨b,off,cs,h1,h2,h3,by rw[ZD];exact h4,h5⟩
theorem Sl.mono {α:Type}{A:mZ}{w:World}{k:Nat}{R R':List Value->α->Prop}{ao:Option Addr}{cap:Nat}{l:List α}(h:Sl A w k R ao cap l)(hR:∀cs x,x∈l->R cs x->R' cs x):Sl A w k R' ao cap l:=by
 refine⟨h.cap_le,h.cap_max,fun i hi=>?_⟩;obtain⟨b,off,cs,h1,h2,h3,h4,h5⟩:=h.elem i hi;exact⟨b,off,cs,h1,h2,h3,hR _ _ (Yl hi) h4,h5⟩
def oN {α:Type}(p:α->Bool)(l:List α):Int:=match l.findIdx? p with|some i=>(i:Int)|none=> -1
theorem Iz {α:Type}{p:α->Bool}{l:List α}{k:Nat}(hk:k < l.length)(hp:p l[k]=true)(hn:∀j (h:j < k),p (l[j]'(by omega))=false):oN p l=k:=by
 have:l.findIdx? p=some k:=by
  rw[XK];exact⟨hk,hp,fun j hj=>by simp[hn j hj]⟩
 unfold oN;rw[this]
theorem Ex {α:Type}{p:α->Bool}{l:List α}(hn:∀j (h:j < l.length),p l[j]=false):oN p l= -1:=by
 have:l.findIdx? p=none:=by
  rw[Yn];intro x hx;obtain⟨j,hj,rfl⟩:=XZ.1 hx;exact hn j hj
 unfold oN;rw[this]
theorem IA {α:Type}(p:α->Bool)(l:List α):decide (oN p l>=0)=l.any p:=by
 unfold oN;cases h:l.findIdx? p with
 |none=>
  rw[Yn]at h;have:l.any p=false:=by rw[Yh];intro x hx;simp[h x hx]
  rw[this];rfl
 |some i=>
  rw[XK]at h;obtain⟨hi,hp,_⟩:=h;have:l.any p=true:=by rw[XR];exact⟨l[i],Yl hi,hp⟩
  rw[this];simp
def No {α:Type}(P:Program)(g:Nat)(lb:Array Value)(R:List Value->α->Prop)(p:α->Bool)(l:List α)(w:World):Prop:=
 ∀W,dy w W->∀x∈l,∀cs,R cs x->Calls P g (#[.agg cs.toArray]++lb) W fun e w'=>e= .returned (.bool (p x))/\dy W w'
end
section
open Go.Proofs
theorem Ey {α:Type}{A:mZ}{R:List Value->α->Prop}(g:Nat)(lb:Array Value)(eg:∀args w,(callFunc g args).run prog w= .ok (.enter g args) w)(p:α->Bool)(l:List α)(ao:Option Addr)(cap:Nat)(w:World)(h:Sl A w 2 R ao cap l)(hp:No prog g lb R p l w):
 Calls prog 179 #[.slice ao l.length cap,.func (.func g) #[] lb] w fun e w'=>e= .returned (.int .i64 (oN p l))/\dy w w':=by
 have gB:=h.cap_le;have LY:=h.cap_max;obtain⟨r,hr⟩:∃r,r=oN p l:=⟨_,rfl⟩;rw[<-hr];replace hr:=Xi hr;replace hp:=Xi hp;go_enter func179,ntmps179
 go_wp2_with fail
 go_loopw [5,8] (fun _ s8 wr=>∃k:Nat,k<=l.length/\s8= .int .i64 k/\Hid (∀j (h:j < k) (h':j < l.length),p l[j]=false)/\dy w wr) (fun _ s8 _=>l.length - (intOf s8).toNat)
 case atStart=>exact⟨0,XE _,rfl,Xi (fun j hj=>absurd hj (Yy _)),Below.refl _ w⟩
 case round=>
  obtain⟨k,hk,rfl,bO,hx⟩:=hrel;by_cases hlt:k < l.length
  ·have fy:(k:Int) < (l.length:Int):=aa;obtain⟨b,off,cs,rfl,-,bP,hR,fP⟩:=h.elem k hlt;have jL:=hp.out wr hx l[k] (Yl hlt) cs hR;replace fP:=fd hx fP;obtain⟨q,hq⟩:∃q,q=p l[k]:=⟨_,rfl⟩;rw[<-hq]at jL;replace hq:=Xi hq;clear h hR;match cs,bP with
   |[v0,v1],_=>
    obtain⟨k0,k1⟩:=ke fP;clear fP;replace jL:=Xi jL;cases q
    case true=>
     go_wp2_with fail
     refine jL.out.mono ?_;rintro e w1 ⟨rfl,pZ⟩;go_wp2_with fail
     go_ret
     exact⟨ce (by rw[hr.out];exact(Iz hlt hq.out.symm fun j hj=>bO.out j hj aa).symm),ap hx pZ⟩
    case false=>
     go_wp2_with fail
     refine jL.out.mono ?_;rintro e w1 ⟨rfl,pZ⟩;go_wp2_with fail
     go_roundw
     case rel=>exact⟨k+1,by omega,by go_num,Xi (fun j hj hj'=>by
      rcases S' (_c hj)with h1|h1
      ·exact bO.out j h1 hj'
      ·subst h1;exact hq.out.symm),ap hx pZ⟩
     case measure=>simp[intOf];omega
  ·have fy:¬(k:Int) < (l.length:Int):=aa;obtain rfl:k=l.length:=aa;go_wp2_with fail
   go_ret
   exact⟨ce (by rw[hr.out];exact(Ex fun j hj=>bO.out j hj hj).symm),hx⟩
theorem xN {α:Type}{A:mZ}{R:List Value->α->Prop}(g:Nat)(lb:Array Value)(eg:∀args w,(callFunc g args).run prog w= .ok (.enter g args) w)(p:α->Bool)(l:List α)(ao:Option Addr)(cap:Nat)(w:World)(h:Sl A w 2 R ao cap l)(hp:No prog g lb R p l w):
 Calls prog 95 #[.slice ao l.length cap,.func (.func g) #[] lb] w fun e w'=>e= .returned (.bool (l.any p))/\dy w w':=by
 have hc:=Ey g lb eg p l ao cap w h hp;have ha:=IA p l;obtain⟨r,hr⟩:∃r,r=oN p l:=⟨_,rfl⟩;rw[<-hr]at hc ha;rw[<-ha];clear hr ha h hp;replace hc:=Xi hc;go_enter func95,ntmps95
 go_wp2_with fail
 refine hc.out.mono ?_;rintro e w1 ⟨rfl,pZ⟩;go_wp2_with fail
 go_ret
 exact⟨rfl,pZ⟩
end
section
open Go.Proofs
theorem Ra {A:mZ}(v:Pfx)(l:List Pfx)(ao:Option Addr)(cap:Nat)(w:World)(h:Sl A w 2 cP ao cap l):
 Calls prog 334 #[.slice ao l.length cap,.agg #[.int .i64 v.at_,.int .i64 v.len]] w fun e w'=>e= .returned (.int .i64 (oN (fun x=>decide (v=x)) l))/\dy w w':=by
 have gB:=h.cap_le;have LY:=h.cap_max;obtain⟨r,hr⟩:∃r,r=oN (fun x=>decide (v=x)) l:=⟨_,rfl⟩;rw[<-hr];replace hr:=Xi hr;go_enter func334,ntmps334
 go_wp2_with fail
 go_loopw [5,8] (fun _ s8 wr=>∃k:Nat,k<=l.length/\s8= .int .i64 k/\Hid (∀j (h:j < k) (h':j < l.length),decide (v=l[j])=false)/\dy (w.alloc (.cells #[.int .i64 v.at_,.int .i64 v.len] 32)) wr) (fun _ s8 _=>l.length - (intOf s8).toNat)
 case atStart=>exact⟨0,XE _,rfl,Xi (fun j hj=>absurd hj (Yy _)),Below.refl _ _⟩
 case round=>
  obtain⟨k,hk,rfl,bO,hx⟩:=hrel;by_cases hlt:k < l.length
  ·have fy:(k:Int) < (l.length:Int):=aa;obtain⟨b,off,cs,rfl,-,bP,hR,fP⟩:=h.elem k hlt;replace fP:=fd hx (fd (aB _ _) fP);unfold cP at hR;subst hR;obtain⟨k0,k1⟩:=ke fP;have p0:wr.cell? ⟨w.heap.size,0,none⟩=some (.int .i64 v.at_):=bZ hx ak;have p1:wr.cell? ⟨w.heap.size,1,none⟩=some (.int .i64 v.len):=bZ hx ak;have lb:=dI k0;have lp:=dI p0;obtain⟨y,hy⟩:∃y,y=l[k]:=⟨_,rfl⟩;rw[<-hy]at k0 k1;replace hy:=Xi hy;clear fP h;by_cases e0:v.at_=y.at_
   ·by_cases e1:v.len=y.len
    ·have he:decide (v=y)=true:=by simp;cases v;cases y;simp_all
     replace he:=Xi he;go_wp2_with fail
     refine PW ?_;refine dO ?_;intro w2 cM;obtain⟨dV,dH⟩:=aX cM;have dW:=bv cM;(try simp only[Xt,ae,Xy,Xu]at dV dH dW)
     go_wp2_with fail
     go_ret
     exact⟨ce (by rw[hr.out];exact(Iz hlt (by rw[<-hy.out];exact he.out) fun j hj=>bO.out j hj aa).symm),ap (aB _ _) (ap hx cM)⟩
    ·have he:decide (v=y)=false:=by simp;intro h;exact e1 (by rw[h])
     replace he:=Xi he;go_wp2_with fail
     refine PW ?_;refine dO ?_;intro w2 cM;obtain⟨dV,dH⟩:=aX cM;have dW:=bv cM;(try simp only[Xt,ae,Xy,Xu]at dV dH dW)
     go_wp2_with fail
     go_roundw
     case rel=>exact⟨k+1,by omega,by go_num,Xi (fun j hj hj'=>by
      rcases S' (_c hj)with h1|h1
      ·exact bO.out j h1 hj'
      ·subst h1;rw[<-hy.out];exact he.out),ap hx cM⟩
     case measure=>simp[intOf];omega
   ·have he:decide (v=y)=false:=by simp;intro h;exact e0 (by rw[h])
    replace he:=Xi he;go_wp2_with fail
    refine PW ?_;refine dO ?_;intro w2 cM;obtain⟨dV,dH⟩:=aX cM;have dW:=bv cM;(try simp only[Xt,ae,Xy,Xu]at dV dH dW)
    go_wp2_with fail
    go_roundw
    case rel=>exact⟨k+1,by omega,by go_num,Xi (fun j hj hj'=>by
     rcases S' (_c hj)with h1|h1
     ·exact bO.out j h1 hj'
     ·subst h1;rw[<-hy.out];exact he.out),ap hx cM⟩
    case measure=>simp[intOf];omega
  ·have fy:¬(k:Int) < (l.length:Int):=aa;obtain rfl:k=l.length:=aa;go_wp2_with fail
   go_ret
   exact⟨ce (by rw[hr.out];exact(Ex fun j hj=>bO.out j hj hj).symm),ap (aB _ _) hx⟩
theorem GP {A:mZ}(v:Pfx)(l:List Pfx)(ao:Option Addr)(cap:Nat)(w:World)(h:Sl A w 2 cP ao cap l):
 Calls prog 323 #[.slice ao l.length cap,.agg #[.int .i64 v.at_,.int .i64 v.len]] w fun e w'=>e= .returned (.bool (l.contains v))/\dy w w':=by
 have hc:=fun W (h:Sl A W 2 cP ao cap l)=>Ra v l ao cap W h;have ha:=IA (fun x=>decide (v=x)) l;have hb:l.contains v=l.any (fun x=>decide (v=x)):=by
  rw[Yi];simp
 rw[<-hb]at ha;obtain⟨r,hr⟩:∃r,r=oN (fun x=>decide (v=x)) l:=⟨_,rfl⟩;rw[<-hr]at ha;simp only[<-hr]at hc;rw[<-ha];clear hr ha hb;replace hc:=Xi hc;go_enter func323,ntmps323
 go_wp2_with fail
 refine(hc.out _ (h.ext (aB _ _))).mono ?_;rintro e w1 ⟨rfl,pZ⟩;go_wp2_with fail
 go_ret
 exact⟨rfl,ap (aB _ _) pZ⟩
end
theorem a3E {p:Prop}(h:p:=by
 subst kX;exact hy.wpOp FL hw fun w' hw'=>⟨EX.of hw',lo,hi,XA _,XA _,H.world (hw.trans (EX.of hw'))⟩):p:=h
structure EX (lo hi:Nat)(w w':World):Prop where
 os:w'.os=w.os
 tape:w'.tape=w.tape
 output:w'.output=w.output
 size:w.heap.size<=w'.heap.size
 block:∀b,b < w.heap.size->(b < lo\/hi<=b)->w'.heap[b]? =w.heap[b]?
 there:∀b o,b < w.heap.size->(w.cell? ⟨b,o,none⟩).isSome=true->(w'.cell? ⟨b,o,none⟩).isSome=true
 free:∀b o,b < w.heap.size->w'.frozen? ⟨b,o,none⟩=w.frozen? ⟨b,o,none⟩
theorem EX.refl {lo hi:Nat}(w:World):EX lo hi w w:=⟨rfl,rfl,rfl,XA _,fun _ _ _=>rfl,fun _ _ _ h=>h,fun _ _ _=>rfl⟩
theorem EX.trans {lo hi:Nat}{a b c:World}(h:EX lo hi a b)(k:EX lo hi b c):EX lo hi a c:=
 ⟨k.os.trans h.os,k.tape.trans h.tape,k.output.trans h.output,Yj h.size k.size,fun i hi hx=>(k.block i (Ya hi h.size) hx).trans (h.block i hi hx),
  fun i o hi hs=>k.there i o (Ya hi h.size) (h.there i o hi hs),fun i o hi=>(k.free i o (Ya hi h.size)).trans (h.free i o hi)⟩
theorem EX.of {lo hi:Nat}{w w':World}(h:dy w w'):EX lo hi w w':=
 ⟨h.os,h.tape,h.output,h.size,fun b hb _=>h.block b hb,fun b o hb hs=>by rw[(aX h).1 b o hb];exact hs,fun b o hb=>(aX h).2 b o hb⟩
theorem EX.mono {lo hi lo' hi':Nat}{w w':World}(h1:lo<=lo')(h2:hi'<=hi)(h:EX lo' hi' w w'):EX lo hi w w':=
 ⟨h.os,h.tape,h.output,h.size,fun b hb hx=>h.block b hb aa,h.there,h.free⟩
theorem EX.cell {lo hi:Nat}{w w':World}(h:EX lo hi w w'){b o:Nat}(hb:b < w.heap.size)(hx:b < lo\/hi<=b):w'.cell? ⟨b,o,none⟩=w.cell? ⟨b,o,none⟩:=
 Zk (w:=w) (h.block b hb hx)
theorem EX.setCell {lo hi:Nat}{w w':World}(h:EX lo hi w w'){b o:Nat}(h1:lo<=b)(h2:b < hi)(v:Value):EX lo hi w (w'.setCell ⟨b,o,none⟩ v):=by
 refine⟨h.os,h.tape,h.output,by rw[ae];exact h.size,fun i hi hx=>(m5 v (by show b≠i;omega)).trans (h.block i hi hx),fun i j hi hs=>?_,fun i j hi=>?_⟩
 ·have h3:=h.there i j hi hs;obtain⟨u,hu⟩:=Ze.1 h3;obtain⟨u',hu'⟩:=cell?_setCell_some (w:=w') (p:=⟨b,o,none⟩) (x:=v) (q:=⟨i,j,none⟩) (v:=u) hu;rw[hu'];rfl
 ·rw[World.frozen?_setCell];exact h.free i j hi
theorem EX.drew {lo hi:Nat}{w w':World}(h:EX lo hi w w'):EX lo hi w w'.drew:=h.trans (EX.of ((Below.refl _ _).drew))
theorem EX.bel {lo hi B:Nat}{a w w':World}(h:Bel B a w)(hx:EX lo hi w w')(hB:B<=lo):Bel B a w':=
 ⟨h.bel.trans ⟨hx.os,hx.tape,hx.output,hx.size,fun k hk=>hx.block k (Ya hk h.le) (.inl (Ya hk hB))⟩,Yj h.le hx.size⟩
theorem EX.some {lo hi:Nat}{w w':World}(h:EX lo hi w w'){b o:Nat}{v:Value}(hc:w.cell? ⟨b,o,none⟩=some v):∃u,w'.cell? ⟨b,o,none⟩=some u:=by
 have:=h.there b o (dI hc) (by rw[hc];rfl);exact Ze.1 this
theorem FA {lo hi:Nat}{w w':World}(h:EX lo hi w w')(hl:lo<=w.heap.size):∀b o,b < lo->w'.cell? ⟨b,o,none⟩=w.cell? ⟨b,o,none⟩:=fun b o hb=>h.cell aa (.inl hb)
theorem EX.hi {lo hi:Nat}{w w':World}(h:EX lo hi w w'):∀b o,hi<=b->b < w.heap.size->w'.cell? ⟨b,o,none⟩=w.cell? ⟨b,o,none⟩:=fun b o hb h2=>h.cell h2 (.inr hb)
section
variable {P:Program}{ops:Array Oper}{Q:Exit->Act->World->Prop}
def GX (P:Program)(ops:Array Oper)(Q:Exit->Act->World->Prop):Nat->Array Bool->Act->Nat->Nat->World->Prop
 |0,listed,a,lo,hi,W=>Region.ready .any ops listed=[]/\∀w,EX lo hi W w->Q .normal a w
 |fuel+1,listed,a,lo,hi,W=>∀w,EX lo hi W w->(Region.ready .any ops listed=[]->Q .normal a w)/\
  ∀i∈Region.ready .any ops listed,wpOp P ops Q i (fun a' w'=>EX lo hi w w'/\∃lo' hi',lo<=lo'/\hi'<=hi/\GX P ops Q fuel (listed.setIfInBounds i true) a' lo' hi' w') a w
theorem GX.world:∀{fuel:Nat}{listed:Array Bool}{a:Act}{lo hi:Nat}{W W':World},EX lo hi W W'->GX P ops Q fuel listed a lo hi W->GX P ops Q fuel listed a lo hi W'
 |0,_,_,_,_,_,_,hx,h=>⟨h.1,fun w hw=>h.2 w (hx.trans hw)⟩
 |_+1,_,_,_,_,_,_,hx,h=>fun w hw=>h w (hx.trans hw)
theorem GX.any:∀{fuel:Nat}{listed:Array Bool}{a:Act}{lo hi:Nat}{W:World},GX P ops Q fuel listed a lo hi W->wpAny P .any ops Q fuel listed a W
 |0,_,_,_,_,_,h=>⟨h.1,h.2 _ (EX.refl _)⟩
 |_+1,_,_,_,_,W,h=>⟨(h W (EX.refl _)).1,fun i hi=>wpOp_mono (fun _ _ ⟨_,_,_,_,_,h'⟩=>GX.any h') ((h W (EX.refl _)).2 i hi)⟩
def QX (P:Program)(ops:Array Oper)(lo hi:Nat)(W:World)(o:Oper)(v:Value)(a:Act):Prop:=
 (Region.wanted o (yielded ops a.tmps)=true/\∀w,EX lo hi W w->o.quietAt P a (dy w) w v)\/
 (Region.wanted o (yielded ops a.tmps)=false/\v=undef)
theorem QX.world {lo hi lo' hi':Nat}{W W':World}{o:Oper}{v:Value}{a:Act}(h1:lo<=lo')(h2:hi'<=hi)(hx:EX lo hi W W')(h:QX P ops lo hi W o v a):QX P ops lo' hi' W' o v a:=
 h.imp (fun⟨g1,g2⟩=>⟨g1,fun w hw=>g2 w (hx.trans (hw.mono h1 h2))⟩) id
theorem QX.of_same {lo hi:Nat}{W:World}{o:Oper}{v:Value}{a a':Act}(hy:QX P ops lo hi W o v a)(he:execOp a'.eval o=execOp a.eval o)
 (hw:Region.wanted o (yielded ops a'.tmps)=Region.wanted o (yielded ops a.tmps)):QX P ops lo hi W o v a':=by
 unfold QX Oper.quietAt at*;rw[he,hw];exact hy
theorem QX.wpOp {lo hi:Nat}{W:World}{i:Nat}{o:Oper}{v:Value}{a:Act}(hi':ops[i]? =some o)(hy:QX P ops lo hi W o v a){K:Act->World->Prop}{w:World}(hw:EX lo hi W w)(h:∀w',dy w w'->K (a.put o.dst v) w'):wpOp P ops Q i K a w:=by
 unfold Go.wpOp;simp only[hi'];rcases hy with⟨CX,hv⟩|⟨CX,rfl⟩
 ·simp only[CX,if_true];left;have h3:=hv w hw;unfold Oper.quietAt at h3;unfold Oper.wp;generalize (execOp a.eval o).run P w=r at*;cases r with
  |ok n w'=>
   cases n<;>simp only[Oper.quietUpon]at h3<;>simp only[Oper.upon]
   case value u=>
    obtain⟨e1,e2⟩:=h3;rw[e1,e2];exact h _ (Below.refl _ _)
   case skip=>
    obtain⟨e1,e2⟩:=h3;rw[e1,<-e2];exact h _ (Below.refl _ _)
   case enter f args=>
    obtain⟨e1,hc⟩:=h3;rw[e1];exact hc.mono fun e w'' ⟨he,hw''⟩=>by subst he;exact h _ hw''
  |halt x w'=>simp only[Oper.quietUpon]at h3
 ·exact a4U
theorem Kt {lo hi:Nat}{W:World}{j:Nat}{oi oj:Oper}{v:Value}(hj:ops[j]? =some oj)(Jo:oi.apart ops oj=true)
 (F7:∀cs b,oi.op≠ .select cs b) (Tv:∀cs b,oj.op≠ .select cs b)
 (hQ:∀c a w,Q (.panic c) (a.put oi.dst v) w->Q (.panic c) a w) {K:Act->World->Prop}{a:Act}{w:World}
 (hy:QX P ops lo hi W oi v a) (h:wpOp P ops Q j K (a.put oi.dst v) w):
 wpOp P ops Q j (fun a' w'=>QX P ops lo hi W oi v a'/\K (a'.put oi.dst v) w') a w:=by
 obtain⟨h1,h2,h3⟩:=Oper.apart_spec Jo;have keep:∀(a:Act),QX P ops lo hi W oi v a->∀u,QX P ops lo hi W oi v (a.put oj.dst u):=fun a hy u=>
  hy.of_same (execOp_put oi F7 a oj.dst u h3) (wanted_put oi a oj.dst u h3)
 have keepD:∀d,QX P ops lo hi W oi v {a with defers:=d::a.defers}:=fun d=>hy.of_same rfl rfl;unfold wpOp at*;simp only[hj]at*;rw[wanted_put oj a oi.dst v h1]at h;split
 ·exact LE
 ·exact a2z
theorem Np {i:Nat}{oi:Oper}{v:Value}(FL:ops[i]? =some oi)(FG:∀(j:Nat) (o:Oper) cs b,ops[j]? =some o->o.op≠ .select cs b)
 (hQ:∀c a w,Q (.panic c) (a.put oi.dst v) w->Q (.panic c) a w):
 ∀(fuel:Nat) (listed:Array Bool) (a:Act) (lo hi:Nat) (W:World),
  (∀j oj,ops[j]? =some oj->j≠i->listed.getD j true=false->(∀e∈oj.after,Region.binds .any e=true->e.on≠i)->oi.apart ops oj=true)->
  i∈Region.ready .any ops listed->QX P ops lo hi W oi v a->
  GX P ops Q fuel (listed.setIfInBounds i true) (a.put oi.dst v) lo hi W->GX P ops Q (fuel+1) listed a lo hi W:=by
 intro fuel;induction fuel with
 |zero=>
  intro listed a lo hi W _ hr hy H w hw;refine⟨fun h=>(by rw[h]at hr;cases hr),fun j hj=>?_⟩;by_cases kX:j=i
  ·exact a3E
  ·exact a3S
 |succ fuel ih=>
  intro listed a lo hi W vP hr hy H w hw;refine⟨fun h=>(by rw[h]at hr;cases hr),fun j hj=>?_⟩;by_cases kX:j=i
  ·exact a3E
  ·have h1:=(H w hw).2 j (ready_mono hj kX);obtain⟨FH,oj,Po,bO⟩:=mem_ready.1 hj;have Pp:∀e∈oj.after,Region.binds .any e=true->e.on≠i:=fun e he hb heq=>a2g
   have h2:=Kt Po (vP j oj Po kX FH Pp) (fun cs b=>FG i oi cs b FL) (fun cs b=>FG j oj cs b Po) hQ (hy.world (XA _) (XA _) hw) h1;have y9:∀k ok,ops[k]? =some ok->k≠i->(listed.setIfInBounds j true).getD k true=false->
    (∀e∈ok.after,Region.binds .any e=true->e.on≠i)->oi.apart ops ok=true:=fun k ok hk Pq Tw bQ=>by
    refine vP k ok hk Pq ?_ bQ;by_cases CY:j=k
    ·subst CY;exact FH
    ·exact a4x
   refine wpOp_mono (fun a' w' ⟨h3,h4,lo',hi',h5,h6,h7⟩=>⟨h4,lo',hi',h5,h6,ih (listed.setIfInBounds j true) a' lo' hi' w' y9 (ready_mono hr (Ne.symm kX)) (h3.world h5 h6 h4) ?_⟩) h2;rw[Array.setIfInBounds_comm _ _ kX];exact h7
def kL (P:Program)(ops:Array Oper)(Q:Exit->Act->World->Prop):List Oper->Nat->Array Bool->Act->Nat->Nat->World->Prop
 |[],_,_,a,lo,hi,W=>∀w,EX lo hi W w->Q .normal a w
 |o::rest,k,listed,a,lo,hi,W=>
  (∃v,QX P ops lo hi W o v a/\kL P ops Q rest (k+1) (listed.setIfInBounds k true) (a.put o.dst v) lo hi W)\/
  (Region.ready .any ops listed=[k]/\Region.wanted o (yielded ops a.tmps)=true/\∀w,EX lo hi W w->o.wp P a w (fun a' w'=>EX lo hi w w'/\∃lo' hi',lo<=lo'/\hi'<=hi/\kL P ops Q rest (k+1) (listed.setIfInBounds k true) a' lo' hi' w') Q)
theorem uu (hs:Region.noSelect ops=true)(hQ:∀c a d v w,Q (.panic c) (a.put d v) w->Q (.panic c) a w):∀(l:List Oper) (k:Nat) (listed:Array Bool) (a:Act) (lo hi:Nat) (W:World),(∀j,l[j]? =ops[k+j]?)->
 Region.lexFrom .any ops l.length k listed=true->kL P ops Q l k listed a lo hi W->GX P ops Q l.length listed a lo hi W
 |[],_,_,_,_,_,_,_,hB,h=>⟨by simpa[Region.lexFrom]using hB,h⟩
 |o::l,k,listed,a,lo,hi,W,hl,hB,h=>by
  have h0:ops[k]? =some o:=by simpa using (hl 0).symm
  simp only[XC,Region.lexFrom,Xv]at hB;obtain⟨⟨hr,hf⟩,hB'⟩:=hB;have hl':∀j,l[j]? =ops[k+1+j]? :=fun j=>by have:=hl (j+1);simpa[ZI,Nat.add_comm 1 j]using this
  rcases h with⟨v,hy,hK⟩|⟨eO,CX,hK⟩
  ·exact Np h0 (Region.noSelect_spec hs) (fun c a w=>hQ c a _ _ w) l.length listed a lo hi W (Region.free_spec h0 hf) (by simpa using hr) hy (uu hs hQ l (k+1) _ _ _ _ _ hl' hB' hK)
  ·intro w hw;refine⟨fun h=>by rw[eO]at h;simp at h,fun i hi'=>?_⟩;rw[eO]at hi';obtain rfl:i=k:=by simpa using hi'
   unfold wpOp;simp only[h0,CX,if_true];left;exact Oper.wp_mono (fun a' w' ⟨h1,lo',hi',h2,h3,h4⟩=>⟨h1,lo',hi',h2,h3,uu hs hQ l (i+1) _ _ _ _ _ hl' hB' h4⟩) (hK w hw)
theorem GQ {id:Nat}{a:Act}{w:World}{l:List Oper}(lo hi:Nat)(hm:P.follows .mixedOrders=true)(hB:Region.lexB .any l.toArray=true)(hQ:∀c a d v w,Q (.panic c) (a.put d v) w->Q (.panic c) a w)
 (h:kL P l.toArray Q l 0 (Y1 l.length false) a lo hi w):(Code.region id l.toArray true).wp P Q a w:=by
 simp only[Region.lexB,Xv]at hB;refine wp_region_any hm ?_;have h2:=uu hB.1 hQ l 0 (Y1 l.length false) a lo hi w ak (by simpa using hB.2) h;have h3:=(h2.world (EX.of ((Below.refl _ _).drew:dy w w.drew))).any;simpa using h3
section
variable {o:Oper}{rest:List Oper}{k lo hi:Nat}{listed:Array Bool}{a:Act}{W:World}
theorem Rb (h:∀w,EX lo hi W w->Q .normal a w):kL P ops Q [] k listed a lo hi W:=h
theorem xO (hw:Region.wanted o (yielded ops a.tmps)=false)(hn:kL P ops Q rest (k+1) (listed.setIfInBounds k true) (a.put o.dst undef) lo hi W):kL P ops Q (o::rest) k listed a lo hi W:=
 .inl ⟨undef,.inr ⟨hw,rfl⟩,hn⟩
theorem xP {j d:Nat}{v:Value}(hg:o.guard=some (j,true))(hd:(ops[j]?).bind (·.dst)=some d)(hv:a.tmps.toList[d]? =some v)(hb:v= .bool false)(hn:kL P ops Q rest (k+1) (listed.setIfInBounds k true) (a.put o.dst undef) lo hi W):kL P ops Q (o::rest) k listed a lo hi W:=
 xO (by simp[Region.wanted,hg,gX hd hv hb]) hn
theorem xQ {j d:Nat}{v:Value}(hg:o.guard=some (j,false))(hd:(ops[j]?).bind (·.dst)=some d)(hv:a.tmps.toList[d]? =some v)(hb:v= .bool true)(hn:kL P ops Q rest (k+1) (listed.setIfInBounds k true) (a.put o.dst undef) lo hi W):kL P ops Q (o::rest) k listed a lo hi W:=
 xO (by simp[Region.wanted,hg,gX hd hv hb]) hn
theorem xR {j d:Nat}{v:Value}{b:Bool}(hg:o.guard=some (j,b))(hd:(ops[j]?).bind (·.dst)=some d)(hv:a.tmps.toList[d]? =some v)(hb:v=undef)(hn:kL P ops Q rest (k+1) (listed.setIfInBounds k true) (a.put o.dst undef) lo hi W):kL P ops Q (o::rest) k listed a lo hi W:=
 xO (by simp[Region.wanted,hg,oa hd hv hb]) hn
theorem Ez {v:Value}(hw:Region.wanted o (yielded ops a.tmps)=true)(h:∀w,EX lo hi W w->∀R:Value->Prop,R v->VG P w w R ((execOp a.eval o).run P w))
 (hn:kL P ops Q rest (k+1) (listed.setIfInBounds k true) (a.put o.dst v) lo hi W):kL P ops Q (o::rest) k listed a lo hi W:=
 .inl ⟨v,.inl ⟨hw,fun w hw=>t9 (h w hw)⟩,hn⟩
theorem A6 (hr:Region.ready .any ops listed=[k])(hw:Region.wanted o (yielded ops a.tmps)=true)
 (h:∀w,EX lo hi W w->∀K:Act->World->Prop,(∀a' w' lo' hi',lo<=lo'->hi'<=hi->EX lo hi w w'->kL P ops Q rest (k+1) (listed.setIfInBounds k true) a' lo' hi' w'->K a' w')->o.wp P a w K Q):kL P ops Q (o::rest) k listed a lo hi W:=
 .inr ⟨hr,hw,fun w hw=>h w hw _ fun _ _ lo' hi' g1 g2 h1 h2=>⟨h1,lo',hi',g1,g2,h2⟩⟩
end
end
section
open Go.Proofs
theorem Uj (a l:Int)(h:bC a l=true)(hl:l < 16):bits .or .i64 a (Gy (l+1)+1)=a+eV (l+1):=by
 obtain⟨g1,g2,g3,g4,g5⟩:=dR h;obtain⟨n,rfl⟩:=Int.eq_ofNat_of_zero_le g3;have e1:Gy (l+1)+1=((2 ^ (16 - (l+1)).toNat:Nat):Int):=by simp[Gy]
 have e2:eV (l+1)=((2 ^ (16 - (l+1)).toNat:Nat):Int):=by simp[eV]
 obtain⟨k,hk⟩:∃k,k=(16 - (l+1)).toNat:=⟨_,rfl⟩;have e3:(16 - l).toNat=k+1:=aa;rw[e1,e2,<-hk];have a1b:k<=15:=aa;have hp:2 ^ k<=2 ^ 15:=Nat.pow_le_pow_right aa a1b;have g6:n % 2 ^ (k+1)=0:=by
  unfold eV at g5;rw[e3]at g5;exact_mod_cast g5
 have hn:n=2 ^ (k+1)*(n / 2 ^ (k+1)):=by have:=ZQ n (2 ^ (k+1));omega
 have hor:n|||2 ^ k=n+2 ^ k:=by
  rw[hn];exact(Nat.two_pow_add_eq_or_of_lt (Nat.pow_lt_pow_right aa aa) _).symm
 show IntKind.i64.wrap ((BitVec.ofInt 64 (n:Int)|||BitVec.ofInt 64 ((2 ^ k:Nat):Int)).toNat:Int)=_;rw[BitVec.toNat_or,lE n aa,lE _ aa,hor,IntKind.wrap_i64];omega
def A7:Value:= .agg #[.int .i64 0,.int .i64 0]
def qe (a l:Int):Value:=
 if chk a l=0 then (if l=16 then .tuple #[A7,A7,.int .i64 3]else .tuple #[.agg #[.int .i64 a,.int .i64 (l+1)],.agg #[.int .i64 (a+eV (l+1)),.int .i64 (l+1)],.int .i64 0])
 else .tuple #[A7,A7,.int .i64 (chk a l)]
theorem xS (a l:Int)(w:World):
 Calls prog 322 #[.agg #[.int .i64 a,.int .i64 l]] w fun e w'=>e= .returned (qe a l)/\dy w w':=by
 have hc:=qc a l;unfold qe A7;by_cases h0:chk a l=0
 ·have hR:bC a l=true:=by simp[bC,h0]
  obtain⟨g1,g2,g3,g4,g5⟩:=dR hR;rw[ah h0];rw[h0]at hc;replace hc:=Xi hc;clear h0;by_cases BD:l=16
  ·rw[ah BD];have a1c:(l==16)=true:=by simp[BD]
   clear BD;go_enter func322,ntmps322
   go_wp2_with fail
   refine(hc.out _).mono ?_;rintro e w1 ⟨rfl,co⟩;obtain⟨ci,cn⟩:=aX co;have cp:=bv co;(try simp only[Xt,ae,Xy,Xu]at ci cn cp)
   go_wp2_with fail
   refine bodyPost_ret ?_ rfl ⟨rfl,Bel.bel (B:=_) ?_⟩
   ·simp[results,results322,go_sem,ci]
   ·exact eA
  ·rw[af BD];have a1c:(l==16)=false:=by simp[BD]
   have hor:=Uj a l hR aa;obtain⟨z1,z2⟩:=re (l+1) aa;have cX:IntKind.i64.wrap (Gy (l+1)+1)=Gy (l+1)+1:=IntWalk.i64_in _ aa;have hmk:=fun W=>pn (l+1) W aa aa;replace hmk:=Xi hmk;clear BD;go_enter func322,ntmps322
   go_wp2_with fail
   refine(hc.out _).mono ?_;rintro e w1 ⟨rfl,co⟩;obtain⟨ci,cn⟩:=aX co;have cp:=bv co;(try simp only[Xt,ae,Xy,Xu]at ci cn cp)
   have l1:w.heap.size < w1.heap.size:=aa;have l2:w.heap.size+1 < w1.heap.size:=aa;have l3:w.heap.size+1+1 < w1.heap.size:=aa;go_wp2_with fail
   refine GQ (w.heap.size+1) (w.heap.size+3) aK aK (fun _ _ d _ _ h=>by cases d<;>exact h) ?_;repeat(first|((first|refine xP rfl rfl rfl cY ?_|refine xQ rfl rfl rfl cY ?_|refine xR rfl rfl rfl cY ?_);simp only[Act.put,XQ,XT,X2])|(apply Ez;(first|exact dQ rfl|exact eE rfl rfl rfl cY);intro wq jN R hR;((have mV:=FA jN (by first|omega|(simp;omega)|(simp;done));have hcd:=EX.hi jN;(try simp only[Xt,ae,Xy,Xu]at mV hcd));go_simp;first|exact hR|((go_at_call 49;exact rj (hmk.out _) hR)));simp only[Act.put,XQ,XT,X2]))
   refine A6 aK (by first|exact dQ rfl|exact eE rfl rfl rfl cY) (fun w2 cM K hK=>?_);have dW:=cM.size;have a1d:=FA cM (by first|omega|(simp;omega)|(simp;done));have a1e:=EX.hi cM;have dH:=cM.free;(try simp only[Xt,ae,Xy,Xu]at dW a1d a1e dH)
   (try have l0w2:w.heap.size < w2.heap.size:=by omega)
   (try have l1w2:w.heap.size+1 < w2.heap.size:=by omega)
   (try have l2w2:w.heap.size+1+1 < w2.heap.size:=by omega)
   (try have l3w2:w.heap.size+1+1+1 < w2.heap.size:=by omega)
   obtain⟨u0w2,a0d⟩:=cM.some (b:=w.heap.size+1) (o:=0) (v:=_) Ju;obtain⟨u1w2,a0e⟩:=cM.some (b:=w.heap.size+1) (o:=1) (v:=_) Ju;go_simp
   refine hK _ _ (w.heap.size+2) (w.heap.size+3) aa aa (by repeat(first|exact EX.refl _|refine EX.setCell ?_ aa aa _)) ?_;clear hK K;obtain⟨v0,LZ⟩:=cM.some (b:=w.heap.size+1+1) (o:=0) (v:=_) Ju;obtain⟨v1,Dh⟩:=cM.some (b:=w.heap.size+1+1) (o:=1) (v:=_) Ju;refine A6 aK (by first|exact dQ rfl|exact eE rfl rfl rfl cY) (fun w3 qP K hK=>?_);have HU:=qP.size;have a0f:=FA qP (by first|omega|(simp;omega)|(simp;done));have a1f:=EX.hi qP;have FM:=qP.free;(try simp only[Xt,ae,Xy,Xu]at HU a0f a1f FM)
   (try have l0w3:w.heap.size < w3.heap.size:=by omega)
   (try have l1w3:w.heap.size+1 < w3.heap.size:=by omega)
   (try have l2w3:w.heap.size+1+1 < w3.heap.size:=by omega)
   (try have l3w3:w.heap.size+1+1+1 < w3.heap.size:=by omega)
   obtain⟨u0w3,a0g⟩:=qP.some (b:=w.heap.size+1+1) (o:=0) (v:=_) Ju;obtain⟨u1w3,a0h⟩:=qP.some (b:=w.heap.size+1+1) (o:=1) (v:=_) Ju;go_simp
   refine hK _ _ (w.heap.size+3) (w.heap.size+3) aa aa (by repeat(first|exact EX.refl _|refine EX.setCell ?_ aa aa _)) ?_;clear hK K;repeat(first|((first|refine xP rfl rfl rfl cY ?_|refine xQ rfl rfl rfl cY ?_|refine xR rfl rfl rfl cY ?_);simp only[Act.put,XQ,XT,X2])|(apply Ez;(first|exact dQ rfl|exact eE rfl rfl rfl cY);intro wq jN R hR;((have mV:=FA jN (by first|omega|(simp;omega)|(simp;done));have hcd:=EX.hi jN;(try simp only[Xt,ae,Xy,Xu]at mV hcd));go_simp;first|exact hR|(fail));simp only[Act.put,XQ,XT,X2]))
   refine Rb ?_;intro w4 C8;have Pw:=C8.size;have a0i:=FA C8 (by first|omega|(simp;omega)|(simp;done));have a1g:=EX.hi C8;have Px:=C8.free;(try simp only[Xt,ae,Xy,Xu]at Pw a0i a1g Px)
   (try have l0w4:w.heap.size < w4.heap.size:=by omega)
   (try have l1w4:w.heap.size+1 < w4.heap.size:=by omega)
   (try have l2w4:w.heap.size+1+1 < w4.heap.size:=by omega)
   (try have l3w4:w.heap.size+1+1+1 < w4.heap.size:=by omega)
   go_wp2_with fail
   refine bodyPost_ret ?_ rfl ⟨rfl,Bel.bel (B:=_) ?_⟩
   ·simp[results,results322,go_sem,a0i,a0f,a0d,a0e,a0g,a0h]
   ·exact eA
 ·rw[af h0];replace h0:(chk a l !=0)=true:=by simpa using h0
  obtain⟨r,hr⟩:∃r,r=chk a l:=⟨_,rfl⟩;rw[<-hr]at hc h0 ⊢;clear hr;replace hc:=Xi hc;go_enter func322,ntmps322
  go_wp2_with fail
  refine(hc.out _).mono ?_;rintro e w1 ⟨rfl,co⟩;obtain⟨ci,cn⟩:=aX co;have cp:=bv co;(try simp only[Xt,ae,Xy,Xu]at ci cn cp)
  go_wp2_with fail
  refine bodyPost_ret ?_ rfl ⟨rfl,Bel.bel (B:=_) ?_⟩
  ·simp[results,results322,go_sem,ci]
  ·exact eA
end
section
open Go.Proofs
theorem GR (b:Nat)(p q:Pfx)(w:World)(h0:w.cell? ⟨b,0,none⟩=some (.int .i64 p.at_))(h1:w.cell? ⟨b,1,none⟩=some (.int .i64 p.len)):
 Calls prog 333 #[.agg #[.int .i64 q.at_,.int .i64 q.len],.pointer (some ⟨b,0,none⟩)] w fun e w'=>e= .returned (.bool (p.meets q))/\dy w w':=by
 have hlt:=dI h0;have hm:=AX p.at_ p.len q.at_ q.len;obtain⟨r,hr⟩:∃r,r=p.meets q:=⟨_,rfl⟩;unfold Pfx.meets at hr;rw[<-hr]at hm;unfold Pfx.meets;rw[<-hr];clear hr;replace hm:=Xi hm;go_enter func333,ntmps333
 go_wp2_with fail
 refine(hm.out _).mono ?_;rintro e w1 ⟨rfl,co⟩;obtain⟨ci,cn⟩:=aX co;have cp:=bv co;(try simp only[Xt,ae,Xy,Xu]at ci cn cp)
 go_wp2_with fail
 go_ret
 refine⟨rfl,Bel.bel (B:=_) ?_⟩;exact eA
theorem GS (b:Nat)(p:Pfx)(us:List Pfx)(w:World)(h0:w.cell? ⟨b,0,none⟩=some (.int .i64 p.at_))(h1:w.cell? ⟨b,1,none⟩=some (.int .i64 p.len)):
 No prog 333 #[.pointer (some ⟨b,0,none⟩)] cP (fun q=>p.meets q) us w:=by
 intro W hW x _ cs hR;unfold cP at hR;subst hR;exact GR b p x W (bZ hW h0) (bZ hW h1)
theorem lY {A:mZ}(us:List Pfx)(uo:Option Addr)(ucap:Nat)(p:Pfx)(w:World)(h:Sl A w 2 cP uo ucap us):
 Calls prog 321 #[.slice uo us.length ucap,.agg #[.int .i64 p.at_,.int .i64 p.len]] w fun e w'=>e= .returned (.bool (us.any fun q=>p.meets q))/\dy w w':=by
 have hc:=fun W (hs:Sl A W 2 cP uo ucap us) h0 h1=>xN 333 #[.pointer (some ⟨w.heap.size,0,none⟩)] (enters_of func333 aK rfl) (fun q=>p.meets q) us uo ucap W hs (GS w.heap.size p us W h0 h1);obtain⟨r,hr⟩:∃r,r=us.any fun q=>p.meets q:=⟨_,rfl⟩;rw[<-hr]at hc ⊢;clear hr;replace hc:=Xi hc;go_enter func321,ntmps321
 go_wp2_with fail
 refine(hc.out _ (h.ext (aB _ _)) ak ak).mono ?_;rintro e w1 ⟨rfl,pZ⟩;go_wp2_with fail
 go_ret
 exact⟨rfl,ap (aB _ _) pZ⟩
end
theorem a3e {p:Prop}(h:p:=by
 unfold dw at hN ⊢;rw[hM]at hN ⊢;simp only[Yz,if_false,XC,XX]at hN ⊢;exact A8 own l n₀ N us uo ucap J Jx hL p m pre W hM hs hj aa):p:=h
section
open Go.Proofs Go.Shelf
attribute [local go_sem] Oper.semAt_some
def dw (us:List Pfx):Nat->Pfx->List Pfx
 |0,p=>if us.any p.meets then []else [p]
 |n+1,p=>if us.any p.meets then (if us.contains p then []else dw us n p.low++dw us n p.high)else [p]
theorem kf {p:Pfx}(h:p.right=true)(hl:p.len < 16):p.low.right=true:=by
 obtain⟨g1,g2,g3,g4,g5⟩:=dR h;refine pu (by simp[Pfx.low];omega) (by simp[Pfx.low];omega) g3 g4 ?_;show p.at_ % eV (p.len+1)=0;rw[sF g1 hl]at g5;exact ZE (N' ⟨2,by omega⟩ (YH g5))
theorem iY {p:Pfx}(h:p.right=true)(hl:p.len < 16):p.high.right=true:=by
 obtain⟨g1,g2,g3,g4,g5⟩:=dR h;have hf:=AY h;have hh:=sF g1 hl;have hs:=fG (n:=p.len+1) aa;refine pu (by simp[Pfx.high];omega) (by simp[Pfx.high];omega) (by simp[Pfx.high];omega) (by simp[Pfx.high];omega) ?_;show (p.at_+eV (p.len+1)) % eV (p.len+1)=0;rw[Int.add_emod_right];rw[hh]at g5;exact ZE (N' ⟨2,by omega⟩ (YH g5))
structure KP (own:World->Nat->Prop)(W W':World):Prop where
 size:W.heap.size<=W'.heap.size
 cells:∀b c t f,¬own W b->W.heap[b]? =some (.cells c t f)->W'.heap[b]? =some (.cells c t f)
 own:∀b,b < W.heap.size->own W' b->own W b
theorem pC {w:World}{b:Nat}{o:Obj}(h:w.heap[b]? =some o):b < w.heap.size:=a4v
theorem KP.trans {own:World->Nat->Prop}{a b c:World}(h:KP own a b)(k:KP own b c):KP own a c:=
 ⟨Yj h.size k.size,fun i x t f hn hc=>k.cells i x t f (fun ho=>hn (h.own i (pC hc) ho)) (h.cells i x t f hn hc),fun i hi ho=>h.own i hi (k.own i (Ya hi h.size) ho)⟩
theorem KP.of {own:World->Nat->Prop}{a b:World}(h:dy a b)(ho:∀i,own b i->own a i):KP own a b:=
 ⟨h.size,fun i x t f _ hc=>Ar h hc,fun i _ hi=>ho i hi⟩
theorem KP.cell {own:World->Nat->Prop}{a b:World}(h:KP own a b){i o:Nat}{v:Value}(hn:¬own a i)(hc:a.cell? ⟨i,o,none⟩=some v):b.cell? ⟨i,o,none⟩=some v:=by
 have hlt:=dI hc;obtain⟨x,hx⟩:∃x,a.heap[i]? =some x:=⟨_,YM hlt⟩;cases x with
 |cells c t f=>
  have:=h.cells i c t f hn hx;simp only[YL,hx,this]at hc ⊢;exact hc
 |_=>simp[YL,hx]at hc
theorem Sl.kp {α:Type}{own:World->Nat->Prop}{n₀:Nat}{w w':World}{k:Nat}{R:List Value->α->Prop}{ao:Option Addr}{cap:Nat}{l:List α}(h:Sl (fun b=>b < n₀) w k R ao cap l)(ho:∀b,own w b->n₀<=b)(hb:KP own w w'):Sl (fun b=>b < n₀) w' k R ao cap l:=by
 refine⟨h.cap_le,h.cap_max,fun i hi=>?_⟩;obtain⟨b,off,cs,h1,h2,h3,h4,h5⟩:=h.elem i hi;exact⟨b,off,cs,h1,h2,h3,h4,fun j hj=>hb.cell (fun hx=>by have:=ho b hx;omega) (h5 j hj)⟩
theorem Ck {F:Fence}(hd:F.depth=none)(k:Nat):F.room k:=fun d h=>by rw[hd]at h;cases h
theorem RoundIn.anyDepth {F:Fence}(hd:F.depth=none){m m':Nat}{P:Program}{l:Nat}{f:FuncId}{tmps:Array Value}{assign body:Code}{w:World}{R:Ending->World->Prop}
 (h:RoundIn F m P l f tmps assign body w R):RoundIn F m' P l f tmps assign body w R:=⟨h.1,fun c cs _=>h.2 c cs (Ck hd _)⟩
theorem YieldAt.anyDepth {F:Fence}(hd:F.depth=none){m:Nat}(m':Nat){P:Program}{l:Nat}{args:Array Value}{W:World}{R:Ending->World->Prop}(h:YieldAt F m P l args W R):YieldAt F m' P l args W R:=by
 obtain⟨fn,tmps,assign,body,hy,hR⟩:=h;exact⟨fn,tmps,assign,body,hy,RoundIn.anyDepth hd hR⟩
def IB (own:World->Nat->Prop)(J Jx:List Pfx->World->Prop)(pre L:List Pfx)(W:World)(e:Ending)(W':World):Prop:=
 (e= .returned (.bool true)/\J (pre++L) W'/\KP own W W')\/(e= .returned (.bool false)/\∃q,q <+:L/\Jx (pre++q) W')
structure LoopOK (own:World->Nat->Prop)(n₀ N l:Nat)(J Jx:List Pfx->World->Prop):Prop where
 ext:∀s A B,J s A->dy A B->J s B
 extx:∀s A B,Jx s A->dy A B->Jx s B
 own1:∀s A b,J s A->own A b->n₀<=b/\b < A.heap.size
 own2:∀s A B b,J s A->dy A B->own B b->own A b
 round:∀m pre (x:Pfx) W,J pre W->pre.length < N->YieldAt Fence.wide m prog l #[x.v] W fun e W'=>
  (e= .returned (.bool true)/\J (pre++[x]) W'/\KP own W W')\/(e= .returned (.bool false)/\Jx (pre++[x]) W')
theorem LoopOK.kp {own:World->Nat->Prop}{n₀ N l:Nat}{J Jx:List Pfx->World->Prop}(hL:LoopOK own n₀ N l J Jx){s:List Pfx}{A B:World}(hj:J s A)(hx:dy A B):KP own A B:=KP.of hx fun b=>hL.own2 s A B b hj hx
section
variable (own:World->Nat->Prop)(l n₀ N:Nat)(us:List Pfx)(uo:Option Addr)(ucap:Nat)(J Jx:List Pfx->World->Prop)(hL:LoopOK own n₀ N l J Jx)
include hL
theorem A8 (p:Pfx)(m:Nat)(pre:List Pfx)(W:World)(hM:us.any p.meets=false)(hs:Sl (fun b=>b < n₀) W 2 cP uo ucap us)(hj:J pre W)(hN:pre.length+1<=N):
 CallsIn Fence.wide m prog 293 #[p.v,.slice uo us.length ucap,.func (.yield l) #[] #[]] W (IB own J Jx pre [p] W):=by
 have hm:=fun W' (h:Sl (fun b=>b < n₀) W' 2 cP uo ucap us)=>lY us uo ucap p W' h;rw[hM]at hm;replace hm:=Xi hm;clear hM;unfold Pfx.v;refine callsIn_of_wp func293 rfl trivial ?_ rfl;simp only[ntmps293,YF,XC,XX,Xz,O',ZB,ZC,ZW,ZG,X8,X5];gi_wp2_with fail
 refine⟨trivial,fun h=>(by cases h),?_⟩;refine(callsIn_wide.2 (hm.out _ (hs.ext (aB _ _)))).mono ?_;rintro e w1 ⟨rfl,co⟩;obtain⟨ci,cn⟩:=aX co;have cp:=bv co;(try simp only[Xt,ae,Xy,Xu]at ci cn cp)
 have pZ:=ap (aB _ _) co;obtain⟨fn,tmps,assign,body,hy,hRr⟩:=hL.round (m - 1) pre p w1 (hL.ext _ _ _ hj pZ) aa;unfold Pfx.v at hy;have jQ:=hL.kp hj pZ;gi_wp2_with fail
 refine⟨fun h=>(by cases h),?_⟩;refine hRr.mono ?_;rintro e w2 (⟨rfl,L0,jT⟩|⟨rfl,nS⟩)
 ·gi_wp2_with fail
  go_ret
  exact .inl ⟨rfl,L0,jQ.trans jT⟩
 ·gi_wp2_with fail
  go_ret
  exact .inr ⟨rfl,[p],List.prefix_refl _,nS⟩
theorem Rc:∀(n:Nat) (p:Pfx) (m:Nat) (pre:List Pfx) (W:World),16 - p.len=(n:Int)->p.right=true->Sl (fun b=>b < n₀) W 2 cP uo ucap us->J pre W->pre.length+(dw us n p).length<=N->
 CallsIn Fence.wide m prog 293 #[p.v,.slice uo us.length ucap,.func (.yield l) #[] #[]] W (IB own J Jx pre (dw us n p) W):=by
 intro n;induction n with
 |zero=>
  intro p m pre W hn hr hs hj hN;cases hM:us.any p.meets
  ·exact a3e
  ·unfold dw;rw[hM,ah rfl];have hm:=fun W' (h:Sl (fun b=>b < n₀) W' 2 cP uo ucap us)=>lY us uo ucap p W' h;rw[hM]at hm;have hh:=xS p.at_ p.len;have hc:chk p.at_ p.len=0:=by have:=hr;unfold Pfx.right bC at this;simpa using this
   have hl:p.len=16:=aa;have hv:qe p.at_ p.len= .tuple #[.agg #[.int .i64 0,.int .i64 0],.agg #[.int .i64 0,.int .i64 0],.int .i64 3]:=by unfold qe A7;rw[ah hc,ah hl]
   rw[hv]at hh;clear hv hc hM hN hl hn hr;replace hm:=Xi hm;replace hh:=Xi hh;unfold Pfx.v;refine callsIn_of_wp func293 rfl trivial ?_ rfl;simp only[ntmps293,YF,XC,XX,Xz,O',ZB,ZC,ZW,ZG,X8,X5];gi_wp2_with fail
   refine⟨trivial,fun h=>(by cases h),?_⟩;refine(callsIn_wide.2 (hm.out _ (hs.ext (aB _ _)))).mono ?_;rintro e w1 ⟨rfl,co⟩;obtain⟨ci,cn⟩:=aX co;have cp:=bv co;(try simp only[Xt,ae,Xy,Xu]at ci cn cp)
   have pZ:=ap (aB _ _) co;have l1:W.heap.size < w1.heap.size:=aa;gi_wp2_with fail
   refine⟨trivial,fun h=>(by cases h),?_⟩;refine(callsIn_wide.2 (hh.out _)).mono ?_;rintro e w2 ⟨rfl,cM⟩;obtain⟨dV,dH⟩:=aX cM;have dW:=bv cM;(try simp only[Xt,ae,Xy,Xu]at dV dH dW)
   have l2:W.heap.size < w2.heap.size:=aa;gi_wp2_with fail
   refine⟨trivial,?_⟩;gi_wp2_with fail
   go_ret
   exact .inl ⟨rfl,by rw[Yv];exact hL.ext _ _ _ hj (ap pZ (ap cM (ap (aB _ _) (aB _ _)))),hL.kp hj (ap pZ (ap cM (ap (aB _ _) (aB _ _))))⟩
 |succ n ih=>
  intro p m pre W hn hr hs hj hN;cases hM:us.any p.meets
  ·exact a3e
  ·have hm:=fun W' (h:Sl (fun b=>b < n₀) W' 2 cP uo ucap us)=>lY us uo ucap p W' h;rw[hM]at hm;have hh:=xS p.at_ p.len;have hc:chk p.at_ p.len=0:=by have:=hr;unfold Pfx.right bC at this;simpa using this
   have hl:p.len < 16:=aa;have hv:qe p.at_ p.len= .tuple #[.agg #[.int .i64 p.at_,.int .i64 (p.len+1)],.agg #[.int .i64 (p.at_+eV (p.len+1)),.int .i64 (p.len+1)],.int .i64 0]:=by unfold qe;rw[ah hc,af aa]
   rw[hv]at hh;have tI:=fun W' (h:Sl (fun b=>b < n₀) W' 2 cP uo ucap us)=>GP p us uo ucap W' h;unfold dw at hN ⊢;rw[hM,ah rfl]at hN ⊢;clear hv hc hM;replace hm:=Xi hm;replace hh:=Xi hh;cases hC:us.contains p
   ·rw[hC]at tI hN;simp only[Yz,if_false,XV]at hN ⊢;replace tI:=Xi tI;have ihl:=fun m' pre' W'=>ih p.low m' pre' W' (by simp[Pfx.low];omega) (kf hr hl);have ihr:=fun m' pre' W'=>ih p.high m' pre' W' (by simp[Pfx.high];omega) (iY hr hl);obtain⟨L,hLL⟩:∃L,L=dw us n p.low:=⟨_,rfl⟩;obtain⟨M,VS⟩:∃M,M=dw us n p.high:=⟨_,rfl⟩;rw[<-hLL]at ihl hN ⊢;rw[<-VS]at ihr hN ⊢;simp only[Pfx.v,Pfx.low]at ihl;simp only[Pfx.v,Pfx.high]at ihr;replace ihl:=Xi ihl;replace ihr:=Xi ihr;clear ih hLL VS hC hl hn hr;unfold Pfx.v;refine callsIn_of_wp func293 rfl trivial ?_ rfl;simp only[ntmps293,YF,XC,XX,Xz,O',ZB,ZC,ZW,ZG,X8,X5];gi_wp2_with fail
    refine⟨trivial,fun h=>(by cases h),?_⟩;refine(callsIn_wide.2 (hm.out _ (hs.ext (aB _ _)))).mono ?_;rintro e w1 ⟨rfl,co⟩;obtain⟨ci,cn⟩:=aX co;have cp:=bv co;(try simp only[Xt,ae,Xy,Xu]at ci cn cp)
    have pZ:=ap (aB _ _) co;have l1:W.heap.size < w1.heap.size:=aa;gi_wp2_with fail
    refine⟨trivial,fun h=>(by cases h),?_⟩;refine(callsIn_wide.2 (hh.out _)).mono ?_;rintro e w2 ⟨rfl,cM⟩;obtain⟨dV,dH⟩:=aX cM;have dW:=bv cM;(try simp only[Xt,ae,Xy,Xu]at dV dH dW)
    have nS:=ap pZ cM;have l2:W.heap.size < w2.heap.size:=aa;gi_wp2_with fail
    refine⟨trivial,fun h=>(by cases h),?_⟩;refine(callsIn_wide.2 (tI.out _ ((hs.ext nS).ext (ap (aB _ _) (aB _ _))))).mono ?_;rintro e w3 ⟨rfl,qP⟩;obtain⟨Aj,FM⟩:=aX qP;have HU:=bv qP;(try simp only[Xt,ae,Xy,Xu]at Aj FM HU)
    have SI:=ap nS (ap (ap (aB _ _) (aB _ _)) qP);have hj3:=hL.ext _ _ _ hj SI;have hk3:=hL.kp hj SI;have l3:w2.heap.size < w3.heap.size:=aa;have l4:w2.heap.size+1 < w3.heap.size:=aa;have l5:W.heap.size < w3.heap.size:=aa;have d0:w3.cell? ⟨w2.heap.size,0,none⟩=some (.int .i64 p.at_):=by rw[Aj _ _ aa];go_simp
    have d1:w3.cell? ⟨w2.heap.size,1,none⟩=some (.int .i64 (p.len+1)):=by rw[Aj _ _ aa];go_simp
    have e0:w3.cell? ⟨w2.heap.size+1,0,none⟩=some (.int .i64 (p.at_+eV (p.len+1))):=by rw[Aj _ _ aa];go_simp
    have e1:w3.cell? ⟨w2.heap.size+1,1,none⟩=some (.int .i64 (p.len+1)):=by rw[Aj _ _ aa];go_simp
    have no:¬own w3 (w2.heap.size+1):=fun ho=>by
     have:=(hL.own1 _ _ _ hj (hL.own2 _ _ _ _ hj SI ho)).2;omega
    have hs3:=hs.ext SI;clear Aj FM dV dH ci cn;gi_wp2_with fail
    refine⟨trivial,fun h=>(by cases h),?_⟩;refine(ihl.out _ pre _ hs3 hj3 aa).mono ?_;rintro e w4 (⟨rfl,hj4,hk4⟩|⟨rfl,q,hq,hx4⟩)
    ·have hs4:=hs3.kp (fun b hb=>(hL.own1 _ _ _ hj3 hb).1) hk4;have e0':=hk4.cell no e0;have e1':=hk4.cell no e1;clear e0 e1 d0 d1;gi_wp2_with fail
     refine⟨trivial,fun h=>(by cases h),?_⟩;refine(ihr.out _ _ _ hs4 hj4 aN).mono ?_;rintro e w5 (⟨rfl,hj5,hk5⟩|⟨rfl,q,hq,hx5⟩)
     ·gi_wp2_with fail
      go_ret
      exact .inl ⟨rfl,by rw[<-X3];exact hj5,hk3.trans (hk4.trans hk5)⟩
     ·gi_wp2_with fail
      go_ret
      obtain⟨r,hr⟩:=hq;exact .inr ⟨rfl,L++q,⟨r,by rw[<-hr];simp⟩,by rw[<-X3];exact hx5⟩
    ·gi_wp2_with fail
     refine⟨trivial,?_⟩;gi_wp2_with fail
     go_ret
     exact .inr ⟨rfl,q,hq.trans (List.prefix_append _ _),hx4⟩
   ·rw[hC]at tI;rw[ah rfl];replace tI:=Xi tI;clear ih hC hl hn hr hN;unfold Pfx.v;refine callsIn_of_wp func293 rfl trivial ?_ rfl;simp only[ntmps293,YF,XC,XX,Xz,O',ZB,ZC,ZW,ZG,X8,X5];gi_wp2_with fail
    refine⟨trivial,fun h=>(by cases h),?_⟩;refine(callsIn_wide.2 (hm.out _ (hs.ext (aB _ _)))).mono ?_;rintro e w1 ⟨rfl,co⟩;obtain⟨ci,cn⟩:=aX co;have cp:=bv co;(try simp only[Xt,ae,Xy,Xu]at ci cn cp)
    have pZ:=ap (aB _ _) co;have l1:W.heap.size < w1.heap.size:=aa;gi_wp2_with fail
    refine⟨trivial,fun h=>(by cases h),?_⟩;refine(callsIn_wide.2 (hh.out _)).mono ?_;rintro e w2 ⟨rfl,cM⟩;obtain⟨dV,dH⟩:=aX cM;have dW:=bv cM;(try simp only[Xt,ae,Xy,Xu]at dV dH dW)
    have nS:=ap pZ cM;have l2:W.heap.size < w2.heap.size:=aa;gi_wp2_with fail
    refine⟨trivial,fun h=>(by cases h),?_⟩;refine(callsIn_wide.2 (tI.out _ ((hs.ext nS).ext (ap (aB _ _) (aB _ _))))).mono ?_;rintro e w3 ⟨rfl,qP⟩;obtain⟨Aj,FM⟩:=aX qP;have HU:=bv qP;(try simp only[Xt,ae,Xy,Xu]at Aj FM HU)
    have SI:=ap nS (ap (ap (aB _ _) (aB _ _)) qP);gi_wp2_with fail
    go_ret
    exact .inl ⟨rfl,by simpa using hL.ext _ _ _ hj SI,hL.kp hj SI⟩
end
end
section
open Go.Proofs Go.Shelf
attribute [local go_sem] Oper.semAt_some
theorem Nq (p:Pfx)(uo:Option Addr)(k ucap:Nat)(w:World):
 Calls prog 244 #[p.v,.slice uo k ucap] w fun e w'=>e= .returned (.func (.func 292) #[] #[.pointer (some ⟨w.heap.size,0,none⟩),.pointer (some ⟨w.heap.size+1,0,none⟩)])/\
  w'=(w.alloc (.cells #[.int .i64 p.at_,.int .i64 p.len] 32)).alloc (.cells #[.slice uo k ucap] 149):=by
 unfold Pfx.v;go_enter func244,ntmps244
 go_wp2_with fail
 go_ret
 exact⟨rfl,rfl⟩
theorem xT {β:Type}{B:Nat}{J:β->World->Prop}(h:AbidesFrom B J):∀s X Y,J s X->dy X Y->J s Y:=fun s X Y hj hx=>
 h s X Y none hj ⟨hx.os,hx.tape,hx.output,hx.size,fun b hb _=>hx.block b hb⟩ (fun r e=>by cases e)
def KG (own:World->Nat->Prop)(G:World->Prop)(W W':World):Prop:=G W->KP own W W'/\G W'
theorem Nr (own:World->Nat->Prop)(G:World->Prop)(l n₀ b1 b2:Nat)(us:List Pfx)(uo:Option Addr)(ucap:Nat)(p:Pfx)(n:Nat)(hn:16 - p.len=(n:Int))(hr:p.right=true)(J Jx:List Pfx->World->Prop)
 (m:Nat) (hL:LoopOK own n₀ (dw us n p).length l J Jx) (W:World) (c0:W.cell? ⟨b1,0,none⟩=some (.int .i64 p.at_)) (c1:W.cell? ⟨b1,1,none⟩=some (.int .i64 p.len)) (c2:W.cell? ⟨b2,0,none⟩=some (.slice uo us.length ucap))
 (hs:Sl (fun b=>b < n₀) W 2 cP uo ucap us) (h0:J [] W):
 CallsIn Fence.wide m prog 292 #[.func (.yield l) #[] #[],.pointer (some ⟨b1,0,none⟩),.pointer (some ⟨b2,0,none⟩)] W fun e W'=>(∃v,e= .returned v)/\
  ((∃ys,ys=dw us n p/\J ys W')\/(∃pre,pre <+:dw us n p/\Jx pre W')):=by
 have hd:=Rc own l n₀ (dw us n p).length us uo ucap J Jx hL n p (m - 1) [] W hn hr hs h0 ak;simp only[Pfx.v]at hd;replace hd:=Xi hd;clear hL hn hr;refine callsIn_of_wp func292 rfl trivial ?_ rfl;simp only[ntmps292,YF,XC,XX,Xz,O',ZB,ZC,ZW,ZG,X8,X5];gi_wp2_with fail
 refine⟨trivial,fun h=>(by cases h),?_⟩;refine hd.out.mono ?_;rintro e w1 (⟨rfl,hj,hk⟩|⟨rfl,q,hq,hx⟩)
 ·gi_wp2_with fail
  go_end0
  exact⟨⟨_,rfl⟩,.inl ⟨_,rfl,by simpa using hj⟩⟩
 ·gi_wp2_with fail
  go_end0
  exact⟨⟨_,rfl⟩,.inr ⟨q,hq,by simpa using hx⟩⟩
theorem GT (own:World->Nat->Prop)(G:World->Prop)(m n₀ b1 b2:Nat)(us:List Pfx)(uo:Option Addr)(ucap:Nat)(p:Pfx)(n:Nat)(hn:16 - p.len=(n:Int))(hr:p.right=true)(w:World)
 (hG0:G w) (hG1:∀A b,G A->own A b->n₀<=b/\b < A.heap.size) (hG2:∀A B b,G A->dy A B->own B b->own A b) (hG3:∀A B,G A->dy A B->G B)
 (c0:w.cell? ⟨b1,0,none⟩=some (.int .i64 p.at_)) (c1:w.cell? ⟨b1,1,none⟩=some (.int .i64 p.len)) (c2:w.cell? ⟨b2,0,none⟩=some (.slice uo us.length ucap))
 (hs:Sl (fun b=>b < n₀) w 2 cP uo ucap us):
 SeqStopsK Fence.wide m prog 292 #[.pointer (some ⟨b1,0,none⟩),.pointer (some ⟨b2,0,none⟩)] (fun x:Pfx=>#[x.v]) (KG own G) (fun ys=>ys=dw us n p) (fun pre=>pre <+:dw us n p) (dw us n p).length w:=by
 intro l J Jx W hW hJ hJx hY h0;have hL:LoopOK own n₀ (dw us n p).length l (fun s A=>J s A/\G A) Jx:=by
  refine⟨fun s A B h hx=>⟨xT hJ s A B h.1 hx,hG3 A B h.2 hx⟩,fun s A B h hx=>xT hJx s A B h hx,fun s A b h ho=>hG1 A b h.2 ho,fun s A B b h hx ho=>hG2 A B b h.2 hx ho,fun m' pre x W1 h hl=>?_⟩;refine YieldAt.mono (YieldAt.anyDepth rfl m' (hY pre x W1 h.1 hl)) fun e W2 h2=>?_;rcases h2 with⟨he,hj,hk⟩|h2
  ·exact .inl ⟨he,⟨hj,(hk h.2).2⟩,(hk h.2).1⟩
  ·exact .inr h2
 refine(Nr own G l n₀ b1 b2 us uo ucap p n hn hr (fun s A=>J s A/\G A) Jx m hL W (bZ hW c0) (bZ hW c1) (bZ hW c2) (hs.ext hW) ⟨h0,hG3 _ _ hG0 hW⟩).mono ?_;rintro e W' ⟨hv,⟨ys,hy,hj⟩|h⟩
 ·exact⟨hv,.inl ⟨ys,hy,hj.1⟩⟩
 ·exact⟨hv,.inr h⟩
end
section
open Go.Proofs
def jE (root:Pfx):Int->List Pfx->Bool
 |_,[]=>true
 |free,p::ps=>dS p root&&(decide (free<=p.at_)&&jE root (p.at_+eV p.len) ps)
theorem vm (root:Pfx)(f:Int)(p:Pfx)(ps:List Pfx):jE root f (p::ps)=(dS p root&&(decide (f<=p.at_)&&jE root (p.at_+eV p.len) ps)):=rfl
def iP (root:Pfx)(us:List Pfx):Int:=if us.length>32 then 2 else if chk root.at_ root.len=0 then (if jE root root.at_ us then 0 else 1)else 1
theorem GU {a l b m:Int}(h:pt a l b m=true):bC a l=true:=by
 unfold pt at h;simp at h;exact h.1.1.1
theorem jF {A:mZ}(root:Pfx)(us:List Pfx)(uo:Option Addr)(ucap:Nat)(w:World)(h:Sl A w 2 cP uo ucap us):
 Calls prog 88 #[.agg #[.int .i64 root.at_,.int .i64 root.len,.slice uo us.length ucap]] w fun e w'=>e= .returned (.int .i64 (iP root us))/\dy w w':=by
 have gB:=h.cap_le;have LY:=h.cap_max;by_cases eP:us.length>32
 ·have hr:iP root us=2:=by unfold iP;rw[ah eP]
  rw[hr];have hI:(32:Int) < (us.length:Int):=aa;clear hr eP;go_enter func88,ntmps88
  go_wp2_with fail
  go_ret
  refine⟨rfl,Bel.bel (B:=_) ?_⟩;exact eA
 ·have hI:(us.length:Int)<=32:=aa;have bo:=qc root.at_ root.len;by_cases hc:chk root.at_ root.len=0
  ·obtain⟨r,hr⟩:∃r,r=iP root us:=⟨_,rfl⟩;rw[<-hr];have kU:r=if jE root root.at_ us then 0 else 1:=by rw[hr];unfold iP;rw[af eP,ah hc]
   rw[hc]at bo;clear hr hc eP;replace hr:=Xi kU;clear kU;replace bo:=Xi bo;go_enter func88,ntmps88
   go_wp2_with fail
   refine(bo.out _).mono ?_;rintro e w1 ⟨rfl,co⟩;obtain⟨ci,cn⟩:=aX co;have cp:=bv co;(try simp only[Xt,ae,Xy,Xu]at ci cn cp)
   have l1:w.heap.size < w1.heap.size:=aa;go_wp2_with fail
   go_loopw [3,20] (fun s3 s20 wr=>∃(k:Nat) (f:Int),k<=us.length/\s20= .int .i64 k/\s3= .int .i64 f/\Hid (jE root root.at_ us=jE root f (us.drop k))/\dy w1 wr) (fun _ s20 _=>us.length - (intOf s20).toNat)
   case atStart=>exact⟨0,root.at_,XE _,rfl,rfl,Xi rfl,Below.refl _ _⟩
   case round=>
    obtain⟨k,f,hk,rfl,rfl,hu,hx⟩:=hrel;have CU:Bel w.heap.size w wr:=(((Bel.refl w).alloc _).call co).call hx;obtain⟨Vc,HN⟩:=aX hx;have hzr:=bv hx;have lr:w.heap.size < wr.heap.size:=aa;by_cases hlt:k < us.length
    ·have fy:(k:Int) < (us.length:Int):=aa;have FN:us.drop k=us[k]::us.drop (k+1):=YN hlt;rw[FN]at hu;clear FN;obtain⟨b,off,cs,rfl,-,bP,hR,fP⟩:=h.elem k hlt;replace fP:=fd (ap (ap (aB _ _) co) hx) fP;unfold cP at hR;subst hR;obtain⟨k0,k1⟩:=ke fP;have lb:=dI k0;obtain⟨p,hp⟩:∃p,p=us[k]:=⟨_,rfl⟩;rw[<-hp]at k0 k1 hu;clear fP hp h;have dM:=lN p.at_ p.len root.at_ root.len;obtain⟨q,hq⟩:∃q,q=pt p.at_ p.len root.at_ root.len:=⟨_,rfl⟩;rw[<-hq]at dM;have wH:jE root root.at_ us=(q&&(decide (f<=p.at_)&&jE root (p.at_+eV p.len) (us.drop (k+1)))):=by rw[hu.out,vm,hq];rfl
     clear hu;cases q
     case false=>
      have gm:r=1:=by rw[hr.out,wH];rfl
      replace gm:=Xi gm;clear wH hr hq;replace dM:=Xi dM;go_wp2_with fail
      refine(dM.out _).mono ?_;rintro e w2 ⟨rfl,cM⟩;obtain⟨dV,dH⟩:=aX cM;have dW:=bv cM;(try simp only[Xt,ae,Xy,Xu]at dV dH dW)
      go_wp2_with fail
      go_ret
      refine⟨ce gm.out.symm,Bel.bel (B:=_) ?_⟩;exact eA
     case true=>
      have HR:=GU hq.symm;obtain⟨g1,g2,g3,g4,-⟩:=dR HR;obtain⟨z1,z2⟩:=fG g1;have cK:=Eg p.at_ p.len;rw[vl HR]at cK;have cX:IntKind.i64.wrap (p.at_+eV p.len)=p.at_+eV p.len:=IntWalk.i64_in _ aa;replace dM:=Xi dM;replace cK:=Xi cK;clear hq HR;by_cases hf:f<=p.at_
      ·have Py:jE root root.at_ us=jE root (p.at_+eV p.len) (us.drop (k+1)):=by rw[wH];simp[hf]
       clear wH;replace Py:=Xi Py;go_wp2_with fail
       refine(dM.out _).mono ?_;rintro e w2 ⟨rfl,cM⟩;obtain⟨dV,dH⟩:=aX cM;have dW:=bv cM;(try simp only[Xt,ae,Xy,Xu]at dV dH dW)
       have l2:w.heap.size < w2.heap.size:=aa;have l3:wr.heap.size < w2.heap.size:=aa;go_wp2_with fail
       refine ri aK aK (fun _ _ d _ _ h=>by cases d<;>exact h) ?_;repeat(first|((first|refine fp rfl rfl rfl cY ?_|refine fq rfl rfl rfl cY ?_|refine ft rfl rfl rfl cY ?_);simp only[Act.put,XQ,XT,X2])|(apply iN;(first|exact dQ rfl|exact eE rfl rfl rfl cY);intro wq jN R hR;((have mV:=(aX jN).1;(try simp only[Xt,ae,Xy,Xu]at mV));go_simp;first|exact hR|((go_at_call 176;exact pq (cK.out _) hR)));simp only[Act.put,XQ,XT,X2]))
       refine dO ?_;intro w3 qP;obtain⟨Aj,FM⟩:=aX qP;have HU:=bv qP;(try simp only[Xt,ae,Xy,Xu]at Aj FM HU)
       go_wp2_with fail
       go_roundw
       case rel=>exact⟨k+1,_,by omega,by go_num,rfl,Py,ap hx (ap (ap (aB _ _) cM) qP)⟩
       case measure=>simp[intOf];omega
      ·have gm:r=1:=by rw[hr.out,wH];simp[hf]
       replace gm:=Xi gm;have hf':p.at_ < f:=aa;clear wH hr hf;go_wp2_with fail
       refine(dM.out _).mono ?_;rintro e w2 ⟨rfl,cM⟩;obtain⟨dV,dH⟩:=aX cM;have dW:=bv cM;(try simp only[Xt,ae,Xy,Xu]at dV dH dW)
       have l2:w.heap.size < w2.heap.size:=aa;have l3:wr.heap.size < w2.heap.size:=aa;go_wp2_with fail
       go_ret
       refine⟨ce gm.out.symm,Bel.bel (B:=_) ?_⟩;exact eA
    ·have fy:¬(k:Int) < (us.length:Int):=aa;obtain rfl:k=us.length:=aa;have gm:r=0:=by rw[hr.out,hu.out,Y6];rfl
     replace gm:=Xi gm;clear hr hu;go_wp2_with fail
     go_ret
     exact⟨ce gm.out.symm,CU.bel⟩
  ·have hr:iP root us=1:=by unfold iP;rw[af eP,af hc]
   rw[hr];obtain⟨c,mV⟩:∃c,c=chk root.at_ root.len:=⟨_,rfl⟩;rw[<-mV]at bo;have bG:(c !=0)=true:=by rw[mV];simpa using hc
   clear hr eP hc mV;replace bo:=Xi bo;go_enter func88,ntmps88
   go_wp2_with fail
   refine(bo.out _).mono ?_;rintro e w1 ⟨rfl,co⟩;obtain⟨ci,cn⟩:=aX co;have cp:=bv co;(try simp only[Xt,ae,Xy,Xu]at ci cn cp)
   go_wp2_with fail
   go_ret
   refine⟨rfl,Bel.bel (B:=_) ?_⟩;exact eA
end
theorem a4N {p:Prop}(h:p:=by
 simp[results,results201,go_sem,ci]):p:=h
section
open Go.Proofs Go.Shelf
attribute [local go_sem] Oper.semAt_some
def jG (root:Pfx)(us:List Pfx):List Pfx:=dw us (16 - root.len).toNat root
@[go_sem] def Pfx.zero:Pfx:=⟨0,0⟩
def mv (root:Pfx)(us:List Pfx)(size:Int):Pfx × Bool × Int:=
 if iP root us=0 then
  (if size < root.len\/16 < size then (Pfx.zero,false,3)else match (jG root us).find? (fun q=>decide (q.len<=size))with|some q=>(⟨q.at_,size⟩,true,0)|none=>(Pfx.zero,false,0))
 else (Pfx.zero,false,iP root us)
def oU (W:World)(b:Nat)(cs:Array Value)(t:TypeId):Prop:=W.heap[b]? =some (.cells cs t (0,0))
theorem fe {A B:World}{row:Option Nat}{b:Nat}{cs:Array Value}{t:TypeId}(h:oU A b cs t)(hg:A.grownBy B row)(hr:∀r,row=some r->∃o:Obj,A.heap[r]? =some o/\o.isCells=false):oU B b cs t:=
 (hg.block b (pC h) (fun e=>by obtain⟨o,ho,hc⟩:=hr b e.symm;rw[show A.heap[b]? =_ from h]at ho;cases ho;cases hc)).trans h
theorem lv {A B:World}{b:Nat}{cs:Array Value}{t:TypeId}(h:oU A b cs t)(hx:dy A B):oU B b cs t:=Ar hx h
theorem dx {W:World}{b o:Nat}{cs:Array Value}{t:TypeId}{v:Value}(h:oU W b cs t)(hv:cs[o]? =some v):W.cell? ⟨b,o,none⟩=some v:=zt h hv
theorem nD {W:World}{b o:Nat}{cs:Array Value}{t:TypeId}(h:oU W b cs t):W.frozen? ⟨b,o,none⟩=false:=mS h
theorem mI {W:World}{b o:Nat}{cs:Array Value}{t:TypeId}(h:oU W b cs t)(v:Value):oU (W.setCell ⟨b,o,none⟩ v) b (cs.setIfInBounds o v) t:=zu h v
theorem dB {W:World}{b c o:Nat}{cs:Array Value}{t:TypeId}(h:oU W b cs t)(bG:c≠b)(v:Value):oU (W.setCell ⟨c,o,none⟩ v) b cs t:=(m5 v bG).trans h
theorem Sl.inW {α:Type}{A:mZ}{w:World}{k:Nat}{R:List Value->α->Prop}{ao:Option Addr}{cap:Nat}{l:List α}(h:Sl A w (k+1) R ao cap l):Sl (fun b=>b < w.heap.size) w (k+1) R ao cap l:=by
 refine⟨h.cap_le,h.cap_max,fun i hi=>?_⟩;obtain⟨b,off,cs,h1,h2,h3,h4,h5⟩:=h.elem i hi;exact⟨b,off,cs,h1,dI (h5 0 aa),h3,h4,h5⟩
theorem a0F {own:World->Nat->Prop}{G:World->Prop}{A B C:World}(h:KG own G A B)(k:KG own G B C):KG own G A C:=fun g=>⟨(h g).1.trans (k (h g).2).1,(k (h g).2).2⟩
abbrev Ns:World->Nat->Prop:=fun _ _=>False
abbrev noG:World->Prop:=fun _=>True
theorem Tb {W W':World}(h:dy W W'):KG Ns noG W W':=fun _=>⟨KP.of h fun _ h=>h,trivial⟩
theorem Ku {w:World}(W:World)(l:Nat)(o o':Obj)(_:w.heap.size<=l)(h:W.heap[l]? =some o)(hc:o.isCells=false)(_:o.isWalk=false):KG Ns noG W (W.putObj l o'):=fun _=>
 ⟨⟨(grownBy_putObj' W l o').size,fun b c t f _ hb=>((grownBy_putObj' W l o').block b (pC hb) (fun e=>by cases e;rw[h]at hb;cases hb;cases hc)).trans hb,fun b _ ho=>ho⟩,trivial⟩
def Wm (w w1:World)(size:Int)(pre:List Pfx)(W:World):Prop:=
 ((∀y∈pre,decide (y.len<=size)=false)/\oU W (w.heap.size+1) #[.int .i64 size] 3/\oU W (w.heap.size+2) #[.int .i64 0,.int .i64 0] 32/\oU W (w.heap.size+3) #[.bool false] 4/\oU W (w.heap.size+4) #[.int .i64 0] 37/\w1.heap.size<=W.heap.size)/\Below w.heap.size w W
def Wn (w:World)(size:Int)(c:Code)(pre:List Pfx)(W:World):Prop:=
 (c= .ret/\∃q x,pre=q++[x]/\decide (x.len<=size)=true/\(∀y∈q,decide (y.len<=size)=false)/\oU W (w.heap.size+2) #[.int .i64 x.at_,.int .i64 size] 32/\oU W (w.heap.size+3) #[.bool true] 4/\oU W (w.heap.size+4) #[.int .i64 0] 37)/\Below w.heap.size w W
theorem EA (w w1:World)(size:Int)(B:Nat)(hB:w.heap.size<=B):OwnFrom B (Wm w w1 size):=by
 intro s X Y row h hg hr;obtain⟨⟨h1,h2,h3,h4,h5,h6⟩,h7⟩:=h;have hr':∀r,row=some r->∃o:Obj,X.heap[r]? =some o/\o.isCells=false:=fun r e=>(hr r e).2;exact⟨⟨h1,fe h2 hg hr',fe h3 hg hr',fe h4 hg hr',fe h5 hg hr',Yj h6 hg.size⟩,h7.grown hg h7.size (fun k e=>Yj hB (hr k e).1)⟩
theorem Nt (w:World)(size:Int)(c:Code)(B:Nat)(hB:w.heap.size<=B):OwnFrom B (Wn w size c):=by
 intro s X Y row h hg hr;obtain⟨⟨h1,q,x,h2,h3,h4,h5,h6,h7⟩,h8⟩:=h;have hr':∀r,row=some r->∃o:Obj,X.heap[r]? =some o/\o.isCells=false:=fun r e=>(hr r e).2;exact⟨⟨h1,q,x,h2,h3,h4,fe h5 hg hr',fe h6 hg hr',fe h7 hg hr'⟩,h8.grown hg h8.size (fun k e=>Yj hB (hr k e).1)⟩
def Nu (w w1:World)(root:Pfx)(uo:Option Addr)(n ucap:Nat)(size:Int)(x:Pfx)(Bx:Nat):Act:=
 {tmps:=#[.agg #[.int .i64 root.at_,.int .i64 root.len,.slice uo n ucap],.int .i64 size,.pointer (some ⟨w.heap.size,0,none⟩),.pointer (some ⟨w.heap.size+1,0,none⟩),.pointer (some ⟨w.heap.size+1+1,0,none⟩),.pointer (some ⟨w.heap.size+1+1+1,0,none⟩),.pointer (some ⟨w.heap.size+1+1+1+1,0,none⟩),.int .i64 0,.pointer (some ⟨Bx,0,none⟩),
  .agg #[.int .i64 root.at_,.int .i64 root.len,.slice uo n ucap],.int .i64 0,.int .i64 0,.bool false,undef,undef,.int .i64 size,.pointer (some ⟨w.heap.size,0,none⟩),.pointer (some ⟨w.heap.size,1,none⟩),.int .i64 root.len,.bool false,.bool false,.int .i64 size,.bool false,.bool false,undef,.pointer (some ⟨w.heap.size,0,none⟩),.agg #[.int .i64 root.at_,.int .i64 root.len],.pointer (some ⟨w.heap.size,2,none⟩),.slice uo n ucap,
  .func (.func 292) #[] #[.pointer (some ⟨w1.heap.size,0,none⟩),.pointer (some ⟨w1.heap.size+1,0,none⟩)],.agg #[.int .i64 x.at_,.int .i64 x.len],undef,undef,undef,undef,undef,undef,undef,undef,undef],defers:=[]}
def Wo (w w1:World)(root:Pfx)(uo:Option Addr)(n ucap:Nat)(size:Int)(x:Pfx)(a':Act)(W:World):Prop:=
 ∃Bx,w1.heap.size<=Bx/\oU W Bx #[.int .i64 x.at_,.int .i64 x.len] 32/\a'=Nu w w1 root uo n ucap size x Bx
theorem Nv {A:mZ}(root:Pfx)(us:List Pfx)(uo:Option Addr)(ucap:Nat)(size:Int)(w:World)(h:Sl A w 2 cP uo ucap us)(CW:iP root us=0)(h1:root.len<=size)(h2:size<=16):
 Calls prog 201 #[.agg #[.int .i64 root.at_,.int .i64 root.len,.slice uo us.length ucap],.int .i64 size] w fun e w'=>
  e= .returned (.tuple #[(mv root us size).1.v,.bool (mv root us size).2.1,.int .i64 (mv root us size).2.2])/\dy w w':=by
 have bo:=fun W (h:Sl A W 2 cP uo ucap us)=>jF root us uo ucap W h;rw[CW]at bo;replace bo:=Xi bo;have hwk:=fun W=>Nq root uo us.length ucap W;unfold Pfx.v at hwk;replace hwk:=Xi hwk;refine(callsIn_wide (n:=3)).1 ?_;refine callsIn_of_wp_marks func201 rfl trivial ?_ rfl;simp only[ntmps201,YF,XC,XX,Xz,O',ZB,ZC,ZW,ZG,X8,X5];gi_wp2_with fail
 refine⟨trivial,?_⟩;refine(callsIn_wide.2 (bo.out _ (h.ext (ap (aB _ _) (ap (aB _ _) (ap (aB _ _) (ap (aB _ _) (aB _ _)))))))).mono ?_;rintro e w1 ⟨rfl,co⟩;obtain⟨ci,cn⟩:=aX co;have cp:=bv co;(try simp only[Xt,ae,Xy,Xu]at ci cn cp)
 have l1:w.heap.size < w1.heap.size:=aa;have l2:w.heap.size+1 < w1.heap.size:=aa;gi_wp2_with fail
 refine⟨trivial,?_⟩;refine(callsIn_wide.2 (hwk.out _)).mono ?_;rintro e w2 ⟨rfl,rfl⟩;have b0:oU w1 w.heap.size #[.int .i64 root.at_,.int .i64 root.len,.slice uo us.length ucap] 151:=lv (ew (ew (ew (ew (lJ _ ak))))) co;have b1:oU w1 (w.heap.size+1) #[.int .i64 size] 3:=lv (ew (ew (ew (lJ _ ak)))) co;have b2:oU w1 (w.heap.size+2) #[.int .i64 0,.int .i64 0] 32:=lv (ew (ew (lJ _ ak))) co;have b3:oU w1 (w.heap.size+3) #[.bool false] 4:=lv (ew (lJ _ ak)) co;have b4:oU w1 (w.heap.size+4) #[.int .i64 0] 37:=lv (lJ _ ak) co;have jr:decide (size < root.len)=false:=aN;have kZ:decide (16 < size)=false:=aN;gi_wp2_with fail
 have nS:dy w1 ((w1.alloc (.cells #[.int .i64 root.at_,.int .i64 root.len] 32)).alloc (.cells #[.slice uo us.length ucap] 149)):=ap (aB _ _) (aB _ _);have FO:dy w w1:=ap (ap (aB _ _) (ap (aB _ _) (ap (aB _ _) (ap (aB _ _) (aB _ _))))) co;have bP:16 - root.len=(((16 - root.len).toNat:Nat):Int):=aa;have Jq:root.right=true:=by
  unfold iP at CW;split at CW<;>(try split at CW)<;>simp_all[Pfx.right,bC]
 refine wpIn_rangeFunc_ownH rfl aa (gf:=292) (lb:=#[.pointer (some ⟨w1.heap.size,0,none⟩),.pointer (some ⟨w1.heap.size+1,0,none⟩)]) rfl trivial (enters_of func292 aK rfl)
  (GT Ns noG 2 w1.heap.size w1.heap.size (w1.heap.size+1) us uo ucap root _ bP Jq _ trivial (fun _ _ _ h=>h.elim) (fun _ _ _ _ _ h=>h) (fun _ _ _ _=>trivial) ak ak ak ((((h.ext FO).inW).ext nS))) a0F (Ku (w:=((w1.alloc (.cells #[.int .i64 root.at_,.int .i64 root.len] 32)).alloc (.cells #[.slice uo us.length ucap] 149)))) (Below.refl _ _) (fun _=>rfl)
  (Wm w w1 size) (Wn w size) (EA w w1 size _ aN) (fun c=>Nt w size c _ aN)
  ⟨⟨by simp,lv b1 nS,lv b2 nS,lv b3 nS,lv b4 nS,nS.size⟩,(ap FO nS).mono (XA _)⟩
  (Wo w w1 root uo us.length ucap size) (fun x a'=>by
   intro s X Y row h hg hr;obtain⟨Bx,h1,h2,h3⟩:=h;exact⟨Bx,h1,fe h2 hg (fun r e=>(hr r e).2),h3⟩) ?assign ?body ?done ?stop
 case assign=>
  intro l pre x W K hi hK;have hi':=hi;obtain⟨⟨-,-,-,-,-,cK⟩,hB⟩:=hi';unfold Pfx.v;gi_wp2
  refine hK _ _ ((KeepsOthers.alloc _ _).from _) (Tb (aB _ _)) (EA w w1 size w.heap.size (XA _) _ _ _ none hi (World.grownBy_alloc _ _ _) (fun r e=>by cases e)) ⟨W.heap.size,cK,Aq _ _,rfl⟩
 case body=>
  rintro l pre x a' W hl ⟨r,hr⟩ hi ⟨Bx,hBx,bX,rfl⟩ hlt;obtain⟨⟨hp,c1,c2,c3,c4,cK⟩,hB⟩:=hi;have x0:=dx (o:=0) bX rfl;have x1:=dx (o:=1) bX rfl;have s0:=dx (o:=0) c1 rfl;have p0:=dx (o:=0) c2 rfl;have p1:=dx (o:=1) c2 rfl;have q0:=dx (o:=0) c3 rfl;have r0:=dx (o:=0) c4 rfl;have f2:∀o,W.frozen? ⟨w.heap.size+2,o,none⟩=false:=fun o=>nD c2;have f3:∀o,W.frozen? ⟨w.heap.size+3,o,none⟩=false:=fun o=>nD c3;have f4:∀o,W.frozen? ⟨w.heap.size+4,o,none⟩=false:=fun o=>nD c4;unfold Nu;cases hx:decide (x.len<=size)
  ·have Hx:=Xi hx;gi_wp2
   exact⟨(KeepsOthers.refl _).from _,Tb (Below.refl _ _),⟨⟨fun y hy=>(X0.1 hy).elim (hp y) (fun e=>by simp at e;rw[e];exact Hx.out),c1,c2,c3,c4,cK⟩,hB⟩⟩
  ·have Hx:=Xi hx;gi_wp2
   refine⟨((((KeepsOthers.setCell _ _ _).trans (KeepsOthers.setCell _ _ _)).trans (KeepsOthers.setCell _ _ _)).trans (KeepsOthers.setCell _ _ _)).from _,⟨⟨rfl,pre,x,rfl,Hx.out,hp,?_,?_,?_⟩,?_⟩⟩
   ·exact dB (dB (mI (mI c2 _) _) aa _) aa _
   ·exact dB (mI (dB (dB c3 aa _) aa _) _) aa _
   ·exact mI (dB (dB (dB c4 aa _) aa _) aa _) _
   ·exact(((hB.setCell (p:=⟨w.heap.size+2,0,none⟩) ak _).setCell (p:=⟨w.heap.size+2,1,none⟩) ak _).setCell (p:=⟨w.heap.size+3,0,none⟩) ak _).setCell (p:=⟨w.heap.size+4,0,none⟩) ak _
 case done=>
  rintro D ys W hD rfl ⟨⟨bG,c1,c2,c3,c4,cK⟩,hB⟩ hK;have p0:=dx (o:=0) c2 rfl;have p1:=dx (o:=1) c2 rfl;have q0:=dx (o:=0) c3 rfl;have r0:=dx (o:=0) c4 rfl;have f2:∀o,W.frozen? ⟨w.heap.size+2,o,none⟩=false:=fun o=>nD c2;have f3:∀o,W.frozen? ⟨w.heap.size+3,o,none⟩=false:=fun o=>nD c3;have f4:∀o,W.frozen? ⟨w.heap.size+4,o,none⟩=false:=fun o=>nD c4;have CS:mv root us size=(Pfx.zero,false,0):=by
   unfold mv;rw[ah CW,af aa];have:(jG root us).find? (fun q=>decide (q.len<=size))=none:=by
    rw[Yr];intro q hq;rw[bG q hq];simp
   rw[this]
  replace CS:=Xi CS;replace bG:=Xi bG;have hK':=((((KeepsOthers.setCell W ⟨w.heap.size+2,0,none⟩ (.int .i64 0)).trans (KeepsOthers.setCell _ ⟨w.heap.size+2,1,none⟩ (.int .i64 0))).trans (KeepsOthers.setCell _ ⟨w.heap.size+3,0,none⟩ (.bool false))).trans (KeepsOthers.setCell _ ⟨w.heap.size+4,0,none⟩ (.int .i64 0))).same D _ hK rfl;have e2:=fe (dB (c:=w.heap.size+4) (o:=0) (dB (c:=w.heap.size+3) (o:=0) (mI (o:=1) (mI (o:=0) c2 (.int .i64 0)) (.int .i64 0)) aa (.bool false)) aa (.int .i64 0)) (grownBy_putObj' _ D (.deferred none)) (fun r e=>by cases e;exact⟨_,hK',rfl⟩);have e3:=fe (dB (c:=w.heap.size+4) (o:=0) (mI (o:=0) (dB (c:=w.heap.size+2) (o:=1) (dB (c:=w.heap.size+2) (o:=0) c3 aa (.int .i64 0)) aa (.int .i64 0)) (.bool false)) aa (.int .i64 0)) (grownBy_putObj' _ D (.deferred none)) (fun r e=>by cases e;exact⟨_,hK',rfl⟩);have e4:=fe (mI (o:=0) (dB (c:=w.heap.size+3) (o:=0) (dB (c:=w.heap.size+2) (o:=1) (dB (c:=w.heap.size+2) (o:=0) c4 aa (.int .i64 0)) aa (.int .i64 0)) aa (.bool false)) (.int .i64 0)) (grownBy_putObj' _ D (.deferred none)) (fun r e=>by cases e;exact⟨_,hK',rfl⟩);have hB4:=((((hB.setCell (p:=⟨w.heap.size+2,0,none⟩) ak (.int .i64 0)).setCell (p:=⟨w.heap.size+2,1,none⟩) ak (.int .i64 0)).setCell (p:=⟨w.heap.size+3,0,none⟩) ak (.bool false)).setCell (p:=⟨w.heap.size+4,0,none⟩) ak (.int .i64 0)).trans (belowK_b (w:=w) (XA _) _ D _ (.deferred none) (by simp at hD;omega) hK' rfl rfl);gi_wp2
  refine⟨by simp,.inl ⟨_,_,rfl,run_takeDeferred hK',?_⟩⟩;refine⟨.tuple #[Pfx.zero.v,.bool false,.int .i64 0],?_,by rw[CS.out],hB4⟩;have y0:=dx (o:=0) e2 rfl;have y1:=dx (o:=1) e2 rfl;have y2:=dx (o:=0) e3 rfl;have y3:=dx (o:=0) e4 rfl;unfold Pfx.zero Pfx.v;simp[results,f201,go_sem,y0,y1,y2,y3]
 case stop=>
  rintro D c pre W hD Vd ⟨⟨rfl,q,x,hq,hx,hn,c2,c3,c4⟩,hB⟩ hK;have CS:mv root us size=(⟨x.at_,size⟩,true,0):=by
   unfold mv;rw[ah CW,af aa];have:(jG root us).find? (fun q=>decide (q.len<=size))=some x:=by
    obtain⟨r,hr⟩:=Vd;unfold jG;rw[<-hr,hq,X3,List.find?_append];have h1:q.find? (fun q=>decide (q.len<=size))=none:=by
     rw[Yr];intro y hy;rw[hn y hy];simp
    rw[h1];simp only[X5,List.find?_cons,hx,Option.none_or]
   rw[this]
  replace CS:=Xi CS;replace hn:=Xi hn;replace hq:=Xi hq;replace Vd:=Xi Vd;have e2:=fe c2 (grownBy_putObj' _ D (.deferred none)) (fun r e=>by cases e;exact⟨_,hK,rfl⟩);have e3:=fe c3 (grownBy_putObj' _ D (.deferred none)) (fun r e=>by cases e;exact⟨_,hK,rfl⟩);have e4:=fe c4 (grownBy_putObj' _ D (.deferred none)) (fun r e=>by cases e;exact⟨_,hK,rfl⟩);have hB4:=hB.trans (belowK_b (w:=w) (XA _) _ D _ (.deferred none) (by simp at hD;omega) hK rfl rfl);gi_wp2
  refine⟨by simp,.inl ⟨_,_,rfl,run_takeDeferred hK,?_⟩⟩;refine⟨.tuple #[Pfx.v ⟨x.at_,size⟩,.bool true,.int .i64 0],?_,by rw[CS.out],hB4⟩;have y0:=dx (o:=0) e2 rfl;have y1:=dx (o:=1) e2 rfl;have y2:=dx (o:=0) e3 rfl;have y3:=dx (o:=0) e4 rfl;unfold Pfx.v;simp[results,f201,go_sem,y0,y1,y2,y3]
theorem Re {A:mZ}(root:Pfx)(us:List Pfx)(uo:Option Addr)(ucap:Nat)(size:Int)(w:World)(h:Sl A w 2 cP uo ucap us):
 Calls prog 201 #[.agg #[.int .i64 root.at_,.int .i64 root.len,.slice uo us.length ucap],.int .i64 size] w fun e w'=>
  e= .returned (.tuple #[(mv root us size).1.v,.bool (mv root us size).2.1,.int .i64 (mv root us size).2.2])/\dy w w':=by
 by_cases h0:iP root us=0
 ·by_cases h1:root.len<=size/\size<=16
  ·exact Nv root us uo ucap size w h h0 h1.1 h1.2
  ·have hf:mv root us size=(Pfx.zero,false,3):=by unfold mv;rw[ah h0,ah aa]
   rw[hf];have bo:=fun W (h:Sl A W 2 cP uo ucap us)=>jF root us uo ucap W h;rw[h0]at bo;replace bo:=Xi bo;clear hf h0;unfold Pfx.zero Pfx.v;by_cases h2:size < root.len
   ·have jr:decide (size < root.len)=true:=by simp[h2]
    clear h1;go_enter func201,ntmps201
    go_wp2_with fail
    refine(bo.out _ (h.ext (ap (aB _ _) (ap (aB _ _) (ap (aB _ _) (ap (aB _ _) (aB _ _))))))).mono ?_;rintro e w1 ⟨rfl,co⟩;obtain⟨ci,cn⟩:=aX co;have cp:=bv co;(try simp only[Xt,ae,Xy,Xu]at ci cn cp)
    go_wp2_with fail
    refine bodyPost_ret ?_ rfl ⟨rfl,Bel.bel (B:=_) ?_⟩
    ·exact a4N
    ·exact eA
   ·have jr:decide (size < root.len)=false:=by simp[h2]
    have kZ:decide (16 < size)=true:=aN;clear h1;go_enter func201,ntmps201
    go_wp2_with fail
    refine(bo.out _ (h.ext (ap (aB _ _) (ap (aB _ _) (ap (aB _ _) (ap (aB _ _) (aB _ _))))))).mono ?_;rintro e w1 ⟨rfl,co⟩;obtain⟨ci,cn⟩:=aX co;have cp:=bv co;(try simp only[Xt,ae,Xy,Xu]at ci cn cp)
    go_wp2_with fail
    refine bodyPost_ret ?_ rfl ⟨rfl,Bel.bel (B:=_) ?_⟩
    ·exact a4N
    ·exact eA
 ·have hf:mv root us size=(Pfx.zero,false,iP root us):=by unfold mv;rw[af h0]
  rw[hf];have bo:=fun W (h:Sl A W 2 cP uo ucap us)=>jF root us uo ucap W h;obtain⟨c,hc⟩:∃c,c=iP root us:=⟨_,rfl⟩;rw[<-hc]at bo h0 ⊢;have bG:(c !=0)=true:=by simpa using h0
  replace bo:=Xi bo;clear hf h0 hc;unfold Pfx.zero Pfx.v;go_enter func201,ntmps201
  go_wp2_with fail
  refine(bo.out _ (h.ext (ap (aB _ _) (ap (aB _ _) (ap (aB _ _) (ap (aB _ _) (aB _ _))))))).mono ?_;rintro e w1 ⟨rfl,co⟩;obtain⟨ci,cn⟩:=aX co;have cp:=bv co;(try simp only[Xt,ae,Xy,Xu]at ci cn cp)
  go_wp2_with fail
  refine bodyPost_ret ?_ rfl ⟨rfl,Bel.bel (B:=_) ?_⟩
  ·exact a4N
  ·exact eA
end
section
open Go.Proofs
theorem PX {Q P:Prop}(q:Q)(h:Hm Q->P:=by
 intro q;refine ri aK aK (fun _ _ d _ _ h=>by cases d<;>exact h) ?_;repeat(first|((first|refine fp rfl rfl rfl cY ?_|refine fq rfl rfl rfl cY ?_|refine ft rfl rfl rfl cY ?_);simp only[Act.put,XQ,XT,X2])|(apply iN;(first|exact dQ rfl|exact eE rfl rfl rfl cY);intro wq jN R hR;((have mV:=(aX jN).1;(try simp only[Xt,ae,Xy,Xu]at mV));go_simp;first|exact hR|(first|(go_at_call 169;exact pq (dM.out _) hR)|(go_at_call 106;exact pq (SG.out _) hR)|(go_at_call 106;exact pq (hm.out _) hR)));simp only[Act.put,XQ,XT,X2]))
 exact q.out):P:=h ⟨q⟩
def nE (q p:Pfx):Bool:=oL q.at_ q.len p.at_ p.len
def A9 (p q:Pfx):Bool:=zJ p.at_ p.len q.at_ q.len
theorem zK {A:mZ}(root:Pfx)(us:List Pfx)(uo:Option Addr)(ucap:Nat)(p:Pfx)(w:World)(h:Sl A w 2 cP uo ucap us):
 Calls prog 290 #[.agg #[.int .i64 root.at_,.int .i64 root.len,.slice uo us.length ucap],.agg #[.int .i64 p.at_,.int .i64 p.len]] w fun e w'=>e= .returned (.bool (us.any fun q=>nE q p))/\dy w w':=by
 have gB:=h.cap_le;have LY:=h.cap_max;obtain⟨r,hr⟩:∃r,r=us.any fun q=>nE q p:=⟨_,rfl⟩;rw[<-hr];replace hr:=Xi hr;go_enter func290,ntmps290
 go_wp2_with fail
 go_loopw [5] (fun s5 wr=>∃k:Nat,k<=us.length/\s5= .int .i64 k/\Hid (∀j (h:j < k) (h':j < us.length),nE us[j] p=false)/\dy ((w.alloc (.cells #[.int .i64 root.at_,.int .i64 root.len,.slice uo us.length ucap] 151)).alloc (.cells #[.int .i64 p.at_,.int .i64 p.len] 32)) wr) (fun s5 _=>us.length - (intOf s5).toNat)
 case atStart=>exact⟨0,XE _,rfl,Xi (fun j hj=>absurd hj (Yy _)),Below.refl _ _⟩
 case round=>
  obtain⟨k,hk,rfl,bO,hx⟩:=hrel;have FO:=ap (ap (aB _ _) (aB _ _)) hx;obtain⟨Vc,HN⟩:=aX hx;have hzr:=bv hx;(try simp only[Xt,ae,Xy,Xu]at Vc HN hzr)
  have lr:w.heap.size < wr.heap.size:=aa;have lr1:w.heap.size+1 < wr.heap.size:=aa;by_cases hlt:k < us.length
  ·have fy:(k:Int) < (us.length:Int):=aa;obtain⟨b,off,cs,rfl,-,bP,hR,fP⟩:=h.elem k hlt;replace fP:=fd FO fP;unfold cP at hR;subst hR;obtain⟨k0,k1⟩:=ke fP;have lb:=dI k0;obtain⟨y,hy⟩:∃y,y=us[k]:=⟨_,rfl⟩;rw[<-hy]at k0 k1;replace hy:=Xi hy;have hm:=sD y.at_ y.len p.at_ p.len;obtain⟨q,hq⟩:∃q,q=nE y p:=⟨_,rfl⟩;unfold nE at hq;rw[<-hq]at hm;replace hq:=Xi hq;replace hm:=Xi hm;clear fP h;cases q
   case true=>
    go_wp2_with fail
    refine PX ?_;refine dO ?_;intro w2 cM;obtain⟨dV,dH⟩:=aX cM;have dW:=bv cM;(try simp only[Xt,ae,Xy,Xu]at dV dH dW)
    go_wp2_with fail
    go_ret
    exact⟨dt (by rw[hr.out,XR.2 ⟨us[k],Yl hlt,by rw[<-hy.out];exact hq.out.symm⟩]),ap FO cM⟩
   case false=>
    go_wp2_with fail
    refine PX ?_;refine dO ?_;intro w2 cM;obtain⟨dV,dH⟩:=aX cM;have dW:=bv cM;(try simp only[Xt,ae,Xy,Xu]at dV dH dW)
    go_wp2_with fail
    go_roundw
    case rel=>exact⟨k+1,by omega,by go_num,Xi (fun j hj hj'=>by
     rcases S' (_c hj)with h1|h1
     ·exact bO.out j h1 hj'
     ·subst h1;rw[<-hy.out];exact hq.out.symm),ap hx cM⟩
    case measure=>simp[intOf];omega
  ·have fy:¬(k:Int) < (us.length:Int):=aa;obtain rfl:k=us.length:=aa;go_wp2_with fail
   go_ret
   exact⟨dt (by
    rw[hr.out,Yh.2 (fun x hx=>?_)];obtain⟨j,hj,rfl⟩:=XZ.1 hx;rw[bO.out j hj hj];simp),FO⟩
def gN (root:Pfx):Option Pfx->List Pfx->Bool
 |_,[]=>true
 |none,p::ps=>A9 p root&&gN root (some p) ps
 |some q,p::ps=>A9 p root&&(!(decide (p.at_<=q.at_)||nE q p)&&gN root (some p) ps)
theorem xU (root p:Pfx)(ps:List Pfx):gN root none (p::ps)=(A9 p root&&gN root (some p) ps):=rfl
theorem xV (root q p:Pfx)(ps:List Pfx):gN root (some q) (p::ps)=(A9 p root&&(!(decide (p.at_<=q.at_)||nE q p)&&gN root (some p) ps)):=rfl
theorem Kv (root:Pfx)(q:Option Pfx):gN root q []=true:=by cases q<;>rfl
def sL (root:Pfx)(us:List Pfx):Int:=if us.length>32 then 2 else if bC root.at_ root.len then (if gN root none us then 0 else 1)else 1
def ru (us:List Pfx)(k:Nat):Option Pfx:=if k=0 then none else us[k - 1]?
theorem xW {A:mZ}(root:Pfx)(us:List Pfx)(uo:Option Addr)(ucap:Nat)(w:World)(h:Sl A w 2 cP uo ucap us):
 Calls prog 101 #[.agg #[.int .i64 root.at_,.int .i64 root.len,.slice uo us.length ucap]] w fun e w'=>e= .returned (.int .i64 (sL root us))/\dy w w':=by
 have gB:=h.cap_le;have LY:=h.cap_max;have Jh:=rg root.at_ root.len;by_cases eP:us.length>32
 ·have hr:sL root us=2:=by unfold sL;rw[ah eP]
  rw[hr];have hI:(32:Int) < (us.length:Int):=aa;clear hr eP Jh;go_enter func101,ntmps101
  go_wp2_with fail
  go_ret
  refine⟨rfl,Bel.bel (B:=_) ?_⟩;exact eA
 ·have hI:(us.length:Int)<=32:=aa;cases hR:bC root.at_ root.len
  case false=>
   have hr:sL root us=1:=by unfold sL;rw[af eP,hR];rfl
   rw[hr];rw[hR]at Jh;replace Jh:=Xi Jh;clear hr eP hR;go_enter func101,ntmps101
   go_wp2_with fail
   refine(Jh.out _).mono ?_;rintro e w1 ⟨rfl,co⟩;obtain⟨ci,cn⟩:=aX co;have cp:=bv co;(try simp only[Xt,ae,Xy,Xu]at ci cn cp)
   go_wp2_with fail
   go_ret
   refine⟨rfl,Bel.bel (B:=_) ?_⟩;exact eA
  case true=>
   obtain⟨r,hr⟩:∃r,r=sL root us:=⟨_,rfl⟩;rw[<-hr];have kU:r=if gN root none us then 0 else 1:=by rw[hr];unfold sL;rw[af eP,hR];rfl
   rw[hR]at Jh;replace Jh:=Xi Jh;clear hr eP hR;replace hr:=Xi kU;clear kU;go_enter func101,ntmps101
   go_wp2_with fail
   refine(Jh.out _).mono ?_;rintro e w1 ⟨rfl,co⟩;obtain⟨ci,cn⟩:=aX co;have cp:=bv co;(try simp only[Xt,ae,Xy,Xu]at ci cn cp)
   have pZ:=ap (aB _ _) co;have l1:w.heap.size < w1.heap.size:=aa;go_wp2_with fail
   go_loopw [3] (fun s3 wr=>∃(k:Nat),k<=us.length/\s3= .int .i64 k/\Hid (gN root none us=gN root (ru us k) (us.drop k))/\dy w1 wr) (fun s3 _=>us.length - (intOf s3).toNat)
   case atStart=>exact⟨0,XE _,rfl,Xi rfl,Below.refl _ _⟩
   case round=>
    obtain⟨k,hk,rfl,hu,hx⟩:=hrel;have FO:=ap pZ hx;obtain⟨Vc,HN⟩:=aX hx;have hzr:=bv hx;have lr:w.heap.size < wr.heap.size:=aa;by_cases hlt:k < us.length
    ·have fy:(k:Int) < (us.length:Int):=aa;have FN:us.drop k=us[k]::us.drop (k+1):=YN hlt;have FP:ru us (k+1)=some us[k]:=by unfold ru;rw[af aa];simp[Xj hlt]
     rw[FN]at hu;clear FN;obtain⟨b,off,cs,huo,-,bP,hRR,fP⟩:=h.elem k hlt;replace fP:=fd FO fP;unfold cP at hRR;subst hRR;obtain⟨k0,k1⟩:=ke fP;have lb:=dI k0;obtain⟨p,hp⟩:∃p,p=us[k]:=⟨_,rfl⟩;rw[<-hp]at k0 k1 hu FP;replace FP:=Xi FP;clear fP hp;have dM:=sy p.at_ p.len root.at_ root.len;obtain⟨q,hq⟩:∃q,q=zJ p.at_ p.len root.at_ root.len:=⟨_,rfl⟩;rw[<-hq]at dM;match k,hk,hlt with
     |0,hk,hlt=>
      have wH:gN root none us=(q&&gN root (some p) (us.drop 1)):=by rw[hu.out];show gN root none (p::us.drop 1)=_;rw[xU,hq];rfl
      clear hu hq h;subst huo;rw[Nat.zero_mul,XG]at k0 k1;replace dM:=Xi dM;cases q
      case false=>
       have gm:r=1:=by rw[hr.out,wH];rfl
       replace gm:=Xi gm;clear wH hr;go_wp2_with fail
       refine PX ?_;refine dO ?_;intro w2 cM;obtain⟨dV,dH⟩:=aX cM;have dW:=bv cM;(try simp only[Xt,ae,Xy,Xu]at dV dH dW)
       go_wp2_with fail
       go_ret
       exact⟨ce gm.out.symm,ap FO cM⟩
      case true=>
       have Py:gN root none us=gN root (ru us (0+1)) (us.drop (0+1)):=by rw[wH,FP.out];rfl
       replace Py:=Xi Py;clear wH;go_wp2_with fail
       refine PX ?_;refine dO ?_;intro w2 cM;obtain⟨dV,dH⟩:=aX cM;have dW:=bv cM;(try simp only[Xt,ae,Xy,Xu]at dV dH dW)
       go_wp2_with fail
       go_roundw
       case rel=>exact⟨0+1,by omega,by go_num,Py,ap hx cM⟩
       case measure=>simp[intOf];try omega
     |j+1,hk,hlt=>
      have Pm:j < us.length:=aa;obtain⟨b',off',cs',a0j,-,a1F,a0k,Ak⟩:=h.elem j Pm;rw[huo]at a0j;cases a0j;replace Ak:=fd FO Ak;unfold cP at a0k;subst a0k;obtain⟨m0,m1⟩:=ke Ak;have hpj:ru us (j+1)=some us[j]:=by unfold ru;rw[af aa];simp[Xj Pm]
      rw[hpj]at hu;obtain⟨y,hy⟩:∃y,y=us[j]:=⟨_,rfl⟩;rw[<-hy]at m0 m1 hu;clear hpj hy Ak h;subst huo;have SG:=sD y.at_ y.len p.at_ p.len;obtain⟨t,ht⟩:∃t,t=nE y p:=⟨_,rfl⟩;have wH:gN root none us=(q&&(!(decide (p.at_<=y.at_)||t)&&gN root (some p) (us.drop (j+1+1)))):=by rw[hu.out,xV,hq,ht];rfl
      unfold nE at ht;rw[<-ht]at SG;clear hu ht hq;replace dM:=Xi dM;replace SG:=Xi SG;have mW:IntKind.i64.wrap (j:Int)=(j:Int):=IntWalk.i64_in _ aa;have a1L:IntKind.i64.wrap ((j:Int)+1 - 1)=(j:Int):=by rw[show ((j:Int)+1 - 1)=j from by omega];exact mW
      have W3:(0:Int)<=(j:Int):=aa;have a1G:(0:Int) < (j:Int)+1:=aa;have a1H:(j:Int) < (us.length:Int):=aa;have a1I:(j:Int)+1 < (us.length:Int):=aa;have htn:((j:Int)+1).toNat=j+1:=aa;have SJ:(0:Int)<=(j:Int)+1:=aa;clear fy;cases q
      case false=>
       have gm:r=1:=by rw[hr.out,wH];rfl
       replace gm:=Xi gm;clear wH hr;go_wp2_with fail
       refine PX ?_;refine dO ?_;intro w2 cM;obtain⟨dV,dH⟩:=aX cM;have dW:=bv cM;(try simp only[Xt,ae,Xy,Xu]at dV dH dW)
       go_wp2_with fail
       go_ret
       exact⟨ce gm.out.symm,ap FO cM⟩
      case true=>
       by_cases hge:p.at_<=y.at_
       ·have gm:r=1:=by rw[hr.out,wH];simp[hge]
        replace gm:=Xi gm;clear wH hr;go_wp2_with fail
        refine PX ?_;refine dO ?_;intro w2 cM;obtain⟨dV,dH⟩:=aX cM;have dW:=bv cM;(try simp only[Xt,ae,Xy,Xu]at dV dH dW)
        go_wp2_with fail
        go_ret
        exact⟨ce gm.out.symm,ap FO cM⟩
       ·have a1h:decide (p.at_<=y.at_)=false:=by simp[hge]
        cases t
        case true=>
         have gm:r=1:=by rw[hr.out,wH];simp
         replace gm:=Xi gm;clear wH hr;go_wp2_with fail
         refine PX ?_;refine dO ?_;intro w2 cM;obtain⟨dV,dH⟩:=aX cM;have dW:=bv cM;(try simp only[Xt,ae,Xy,Xu]at dV dH dW)
         go_wp2_with fail
         go_ret
         exact⟨ce gm.out.symm,ap FO cM⟩
        case false=>
         have Py:gN root none us=gN root (ru us (j+1+1)) (us.drop (j+1+1)):=by rw[wH,FP.out,a1h];rfl
         replace Py:=Xi Py;clear wH;go_wp2_with fail
         refine PX ?_;refine dO ?_;intro w2 cM;obtain⟨dV,dH⟩:=aX cM;have dW:=bv cM;(try simp only[Xt,ae,Xy,Xu]at dV dH dW)
         go_wp2_with fail
         go_roundw
         case rel=>exact⟨j+1+1,by omega,by go_num,Py,ap hx cM⟩
         case measure=>simp[intOf];omega
    ·have fy:¬(k:Int) < (us.length:Int):=aa;obtain rfl:k=us.length:=aa;have gm:r=0:=by rw[hr.out,hu.out,Y6,Kv];rfl
     replace gm:=Xi gm;clear hr hu;go_wp2_with fail
     go_ret
     exact⟨ce gm.out.symm,FO⟩
end
theorem a4B {p:Prop}(h:p:=by
 intro u hu;rcases XY.1 hu with rfl|hu
 ·exact h1
 ·exact g1 u hu):p:=h
section
open Go.Proofs
def vn (a b:Pfx):Prop:=a.hi<=b.at_
theorem ou (root:Pfx):∀(us:List Pfx) (f:Int),jE root f us=true↔(∀u∈us,dS u root=true)/\(∀u∈us,f<=u.at_)/\us.Pairwise vn
 |[],f=>by simp[jE]
 |p::ps,f=>by
  rw[vm,Xv,Xv,decide_eq_true_eq,ou root ps,YA];constructor
  ·intro⟨h1,h2,h3,h4,h5⟩;have hp:=p.hi_bd (cr.1 h1).1;refine⟨?_,?_,⟨fun u hu=>h4 u hu,h5⟩⟩
   ·intro u hu;rcases XY.1 hu with rfl|hu
    ·exact h1
    ·exact h3 u hu
   ·intro u hu;rcases XY.1 hu with rfl|hu
    ·exact h2
    ·have:=h4 u hu;unfold Pfx.hi at hp;omega
  ·intro⟨h1,h2,h3,h4⟩;exact⟨h1 p ak,h2 p ak,fun u hu=>h1 u (by simp[hu]),fun u hu=>h3 u hu,h4⟩
theorem qf (root:Pfx):∀(us:List Pfx) (q:Pfx),q.right=true->(gN root (some q) us=true↔(∀u∈us,dS u root=true)/\(∀u∈us,q.hi<=u.at_)/\us.Pairwise vn)
 |[],q,_=>by simp[gN]
 |p::ps,q,hq=>by
  have hqb:=q.hi_bd hq;rw[xV,Xv,Xv,YA];have e1:A9 p root=dS p root:=wv p root;rw[e1];constructor
  ·intro⟨h1,h2,h3⟩;have Jr:=(cr.1 h1).1;have hp:=p.hi_bd Jr;rw[qf root ps p Jr]at h3;obtain⟨g1,g2,g3⟩:=h3;have h4:q.hi<=p.at_:=by
    simp only[Zq,Zl,decide_eq_false_iff_not]at h2;obtain⟨k1,k2⟩:=h2;have k3:¬q.meets p=true:=by rw[<-fI];unfold nE at k2;rw[k2];simp
    rw[dY]at k3;rcases H' p.at_ q.hi with h|h
    ·exact absurd ⟨hq,Jr,by omega,h⟩ k3
    ·exact h
   refine⟨?_,?_,⟨fun u hu=>g2 u hu,g3⟩⟩
   ·exact a4B
   ·intro u hu;rcases XY.1 hu with rfl|hu
    ·exact h4
    ·have:=g2 u hu;omega
  ·intro⟨h1,h2,h3,h4⟩;have zf:=h1 p ak;have Jr:=(cr.1 zf).1;have hqp:=h2 p ak;refine⟨zf,?_,(qf root ps p Jr).2 ⟨fun u hu=>h1 u (by simp[hu]),fun u hu=>h3 u hu,h4⟩⟩;simp only[Zq,Zl,decide_eq_false_iff_not];refine⟨by omega,?_⟩;unfold nE;rw[fI,YB];intro h;have:=(dY.1 h).2.2;omega
theorem Rf (root:Pfx)(us:List Pfx):gN root none us=jE root root.at_ us:=by
 rw[Yi,ou];cases us with
 |nil=>simp[gN]
 |cons p ps=>
  rw[xU,Xv,YA];have e1:A9 p root=dS p root:=wv p root;rw[e1];constructor
  ·intro⟨h1,h2⟩;obtain⟨k1,k2,k3,k4⟩:=cr.1 h1;have hp:=p.hi_bd k1;rw[qf root ps p k1]at h2;obtain⟨g1,g2,g3⟩:=h2;refine⟨?_,?_,⟨fun u hu=>g2 u hu,g3⟩⟩
   ·exact a4B
   ·intro u hu;rcases XY.1 hu with rfl|hu
    ·exact k3
    ·have:=g2 u hu;omega
  ·intro⟨h1,h2,h3,h4⟩;have zf:=h1 p ak;exact⟨zf,(qf root ps p (cr.1 zf).1).2 ⟨fun u hu=>h1 u (by simp[hu]),fun u hu=>h3 u hu,h4⟩⟩
theorem Rg (root:Pfx)(us:List Pfx):sL root us=iP root us:=by
 unfold sL iP;rw[Rf];by_cases h:us.length>32
 ·rw[ah h,ah h]
 ·rw[af h,af h];unfold bC;by_cases h2:chk root.at_ root.len=0
  ·simp[h2]
  ·simp[h2]
structure SpaceOK (root:Pfx)(us:List Pfx):Prop where
 rr:root.right=true
 many:us.length<=32
 ins:∀u∈us,dS u root=true
 apart:us.Pairwise vn
theorem sM {root:Pfx}{us:List Pfx}:iP root us=0↔SpaceOK root us:=by
 unfold iP;constructor
 ·intro h;split at h
  ·omega
  ·rename_i h1;split at h
   ·rename_i h2;split at h
    ·rename_i h3;obtain⟨g1,g2,g3⟩:=(ou root us _).1 h3;exact⟨by simp[Pfx.right,bC,h2],by omega,g1,g3⟩
    ·omega
   ·omega
 ·intro⟨h1,h2,h3,h4⟩;have hc:chk root.at_ root.len=0:=by unfold Pfx.right bC at h1;simpa using h1
  rw[af aa,ah hc,ah ((ou root us _).2 ⟨h3,fun u hu=>(cr.1 (h3 u hu)).2.2.1,h4⟩)]
end
theorem a3i {p:Prop}(h:p:=by
 rw[fH];obtain⟨k,hk,qs⟩:=oq x1 HL rP;exact⟨pu (a:=x.at_) (l:=size) aa rP x3 x4 (ZE (N' ⟨k,hk⟩ (YH x5))),k1,HL,ZJ _,o3.1⟩):p:=h
theorem a3T {p:Prop}(h:p:=by
 rename_i h;obtain rfl:q=p:=by simpa using hq
 exact⟨Ba hr,by unfold jH;simpa using h⟩):p:=h
section
open Go.Proofs
def jH (us:List Pfx)(p:Pfx):Bool:=!us.any p.meets
theorem wx {p:Pfx}(h:p.right=true)(hl:p.len < 16):p.low.at_=p.at_/\p.low.hi=p.high.at_/\p.high.hi=p.hi/\p.at_ < p.high.at_/\p.high.at_ < p.hi:=by
 obtain⟨g1,-⟩:=p.bd h;have e:=sF g1 hl;have s1:=fG (n:=p.len+1) aa;unfold Pfx.low Pfx.high Pfx.hi;refine⟨rfl,rfl,?_,?_,?_⟩<;>simp<;>omega
theorem ow {a b c:Pfx}(h:dS a b=true)(k:dS b c=true):dS a c=true:=by
 rw[cr]at*;exact⟨h.1,k.2.1,by omega,by omega⟩
theorem Nw {b p:Pfx}(h:dS b p=true)(hl:p.len < b.len):dS b p.low=true\/dS b p.high=true:=by
 obtain⟨k1,k2,k3,k4⟩:=cr.1 h;obtain⟨b1,b2,-⟩:=b.bd k1;have Ve:p.len < 16:=aa;obtain⟨e1,e2,e3,e4,e5⟩:=wx k2 Ve;have hb:=b.hi_bd k1;rcases H' b.at_ p.high.at_ with hlt|hle
 ·left;rw[fH];exact⟨k1,kf k2 Ve,by simp[Pfx.low];omega,by rw[e1];exact k3,by rw[e2];exact hlt⟩
 ·right;rw[fH];exact⟨k1,iY k2 Ve,by simp[Pfx.high];omega,hle,by rw[e3];omega⟩
theorem Nx {p:Pfx}(h:p.right=true)(hl:p.len < 16):dS p.low p=true:=by
 obtain⟨e1,e2,e3,e4,e5⟩:=wx h hl;exact cr.2 ⟨kf h hl,h,by omega,by omega⟩
theorem Kw {p:Pfx}(h:p.right=true)(hl:p.len < 16):dS p.high p=true:=by
 obtain⟨e1,e2,e3,e4,e5⟩:=wx h hl;exact cr.2 ⟨iY h hl,h,by omega,by omega⟩
theorem Ba {p:Pfx}(h:p.right=true):dS p p=true:=cr.2 ⟨h,h,by omega,by omega⟩
theorem pD (us:List Pfx):∀(n:Nat) (p:Pfx),16 - p.len=(n:Int)->p.right=true->∀q∈dw us n p,dS q p=true/\jH us q=true
 |0,p,hn,hr,q,hq=>by
  unfold dw at hq;split at hq
  ·cases hq
  ·exact a3T
 |n+1,p,hn,hr,q,hq=>by
  unfold dw at hq;split at hq
  ·split at hq
   ·cases hq
   ·have hl:p.len < 16:=aa;rcases X0.1 hq with h|h
    ·have:=pD us n p.low (by simp[Pfx.low];omega) (kf hr hl) q h;exact⟨ow this.1 (Nx hr hl),this.2⟩
    ·have:=pD us n p.high (by simp[Pfx.high];omega) (iY hr hl) q h;exact⟨ow this.1 (Kw hr hl),this.2⟩
  ·exact a3T
theorem pE (us:List Pfx):∀(n:Nat) (p:Pfx),16 - p.len=(n:Int)->p.right=true->(dw us n p).Pairwise vn
 |0,p,hn,hr=>by unfold dw;split<;>simp
 |n+1,p,hn,hr=>by
  unfold dw;split
  ·split
   ·simp
   ·have hl:p.len < 16:=aa;have h1:=pE us n p.low (by simp[Pfx.low];omega) (kf hr hl);have h2:=pE us n p.high (by simp[Pfx.high];omega) (iY hr hl);refine YQ.2 ⟨h1,h2,fun a ha b hb=>?_⟩;have ka:=(cr.1 (pD us n p.low (by simp[Pfx.low];omega) (kf hr hl) a ha).1);have kb:=(cr.1 (pD us n p.high (by simp[Pfx.high];omega) (iY hr hl) b hb).1);obtain⟨e1,e2,e3,e4,e5⟩:=wx hr hl;unfold vn;omega
  ·simp
theorem xX (us:List Pfx)(hu:∀u∈us,u.right=true):∀(n:Nat) (p:Pfx),16 - p.len=(n:Int)->p.right=true->∀b,dS b p=true->jH us b=true->∃h∈dw us n p,dS b h=true
 |n,p,hn,hr,b,hb,hf=>by
  have vQ:=(cr.1 hb).1;have hbh:=b.hi_bd vQ;by_cases hm:us.any p.meets=true
  ·have LX:us.contains p=false:=by
    rw[YB];intro hc;have hp:p∈us:=by simpa using hc
    have:us.any b.meets=true:=XR.2 ⟨p,hp,dY.2 ⟨vQ,hr,by have:=fH.1 hb;omega,by have:=fH.1 hb;omega⟩⟩;unfold jH at hf;rw[this]at hf;cases hf
   have bP:p.len < b.len:=by
    have h3:=(fH.1 hb).2.2.1;rcases Int.lt_or_eq_of_le h3 with h|h
    ·exact h
    ·exfalso;have hi:=(cr.1 hb);have:b=p:=by
      obtain⟨ba,bl⟩:=b;obtain⟨pa,pl⟩:=p;simp only[Pfx.mk.injEq];simp only[Pfx.hi]at hi;simp only at h;subst h;exact⟨by omega,rfl⟩
     subst this;unfold jH at hf;rw[hm]at hf;cases hf
   obtain⟨b1,b2,-⟩:=b.bd vQ;have hl:p.len < 16:=aa;match n,hn with
   |0,hn=>omega
   |n+1,hn=>
    unfold dw;rw[ah hm,af (by rw[LX];simp)];rcases Nw hb bP with h|h
    ·obtain⟨q,hq,hi⟩:=xX us hu n p.low (by simp[Pfx.low];omega) (kf hr hl) b h hf;exact⟨q,X0.2 (.inl hq),hi⟩
    ·obtain⟨q,hq,hi⟩:=xX us hu n p.high (by simp[Pfx.high];omega) (iY hr hl) b h hf;exact⟨q,X0.2 (.inr hq),hi⟩
  ·refine⟨p,?_,hb⟩;match n with
   |0=>unfold dw;rw[af hm];simp
   |n+1=>unfold dw;rw[af hm];simp
theorem ry {root:Pfx}{us:List Pfx}(h:SpaceOK root us){q:Pfx}(hq:q∈jG root us):dS q root=true/\jH us q=true:=by
 obtain⟨g1,g2,-⟩:=root.bd h.rr;exact pD us _ root aa h.rr q hq
theorem zL {root:Pfx}{us:List Pfx}(h:SpaceOK root us):(jG root us).Pairwise vn:=by
 obtain⟨g1,g2,-⟩:=root.bd h.rr;exact pE us _ root aa h.rr
theorem GV {root:Pfx}{us:List Pfx}(h:SpaceOK root us){b:Pfx}(hb:dS b root=true)(hf:jH us b=true):∃q∈jG root us,dS b q=true:=by
 obtain⟨g1,g2,-⟩:=root.bd h.rr;exact xX us (fun u hu=>(cr.1 (h.ins u hu)).1) _ root aa h.rr b hb hf
theorem EB {us:List Pfx}{a b:Pfx}(h:dS a b=true)(hf:jH us b=true):jH us a=true:=by
 unfold jH at*;rw[Zq]at*;rw[Yh]at*;intro u hu hm;obtain⟨k1,k2,k3,k4⟩:=cr.1 h;obtain⟨m1,m2,m3,m4⟩:=dY.1 hm;exact hf u hu (dY.2 ⟨k2,m2,by omega,by omega⟩)
theorem Ny {root:Pfx}{us:List Pfx}(h:SpaceOK root us){size at_:Int}(mz:root.len<=size)(rP:size<=16)(hi:dS ⟨at_,size⟩ root=true)(hf:jH us ⟨at_,size⟩=true)
 (FQ:∀b,b < at_->dS ⟨b,size⟩ root=true->jH us ⟨b,size⟩=false):∃q,(jG root us).find? (fun q=>decide (q.len<=size))=some q/\q.at_=at_:=by
 obtain⟨q,hq,SK⟩:=GV h hi hf;have uL:=(fH.1 SK).2.2.1;cases iI:(jG root us).find? (fun q=>decide (q.len<=size))with
 |none=>
  rw[Yr]at iI;exact absurd uL (by simpa using iI q hq)
 |some x=>
  refine⟨x,rfl,?_⟩;obtain⟨pZ,⟨la,lb,gQ,bQ⟩⟩:=List.find?_eq_some_iff_append.1 iI;have HL:x.len<=size:=by simpa using pZ
  have hxm:x∈jG root us:=by rw[gQ];simp
  obtain⟨xi,xf⟩:=ry h hxm;obtain⟨k1,k2,k3,k4⟩:=cr.1 xi;obtain⟨x1,x2,x3,x4,x5⟩:=x.bd k1;obtain⟨g1,g2,-⟩:=root.bd h.rr;have o3:=x.hi_bd k1;have cu:dS ⟨x.at_,size⟩ x=true:=a3i
  have hge:at_<=x.at_:=by
   rcases H' x.at_ at_ with hlt|hle
   ·have:=FQ x.at_ hlt (ow cu xi);rw[EB cu xf]at this;cases this
   ·exact hle
  have hle:x.at_<=q.at_:=by
   rw[gQ]at hq;rcases X0.1 hq with h1|h1
   ·exact absurd (bQ q h1) (by simp[uL])
   ·rcases XY.1 h1 with rfl|h2
    ·exact ZJ _
    ·have hs:=zL h;rw[gQ]at hs;have:=(YA.1 (YQ.1 hs).2.1).1 q h2;unfold vn at this;omega
  have hqa:=(cr.1 SK).2.2.1;simp only at hqa;omega
theorem Nz {root:Pfx}{us:List Pfx}(h:SpaceOK root us){size:Int}(mz:root.len<=size)(rP:size<=16)
 (bQ:∀b,dS ⟨b,size⟩ root=true->jH us ⟨b,size⟩=false):(jG root us).find? (fun q=>decide (q.len<=size))=none:=by
 rw[Yr];intro x hx HL;simp only[decide_eq_true_eq]at HL;obtain⟨xi,xf⟩:=ry h hx;obtain⟨k1,k2,k3,k4⟩:=cr.1 xi;obtain⟨x1,x2,x3,x4,x5⟩:=x.bd k1;obtain⟨g1,g2,-⟩:=root.bd h.rr;have o3:=x.hi_bd k1;have cu:dS ⟨x.at_,size⟩ x=true:=a3i
 have:=bQ x.at_ (ow cu xi);rw[EB cu xf]at this;cases this
end
section
open Go.Proofs
def oV (root:Pfx)(us:List Pfx)(size:Int):Pfx × Bool:=
 match (jG root us).find? (fun q=>decide (q.len<=size))with|some q=>(⟨q.at_,size⟩,true)|none=>(Pfx.zero,false)
theorem Kx (us:List Pfx)(p:Pfx):(us.any fun q=>nE q p)=us.any p.meets:=by
 congr 1;funext q;unfold nE;rw[fI,rm]
def IC (us:List Pfx)(p:Pfx)(k:Nat)(f:Int):Prop:=p.at_<=f/\f<=65535/\(f=p.at_\/∃u∈us,u.right=true/\u.meets p=true/\f=u.hi - 1)
theorem NA {us:List Pfx}{p u:Pfx}{k:Nat}{f:Int}(h:IC us p k f)(hu:u∈us)(hr:u.right=true)(hm:u.meets p=true):IC us p (k+1) (max f (u.hi - 1)):=by
 obtain⟨h1,h2,h3⟩:=h;have hb:=u.hi_bd hr;refine⟨by omega,by omega,?_⟩;rcases Int.le_total f (u.hi - 1)with hl|hl
 ·right;exact⟨u,hu,hr,hm,_o hl⟩
 ·rw[_r hl];exact h3
def Bb (root:Pfx)(us:List Pfx)(size at_:Int):Prop:=∀b,b < at_->dS ⟨b,size⟩ root=true->jH us ⟨b,size⟩=false
theorem EC (root:Pfx)(us:List Pfx)(size:Int):Bb root us size root.at_:=fun b hb hi=>by
 have:=(cr.1 hi).2.2.1;simp only at this;omega
theorem GW {root:Pfx}{us:List Pfx}{size at_ f:Int}(h:Bb root us size at_)(hr:Pfx.right ⟨at_,size⟩=true)(hf:IC us ⟨at_,size⟩ us.length f)(hm:us.any (Pfx.meets ⟨at_,size⟩)=true):
 Bb root us size (max at_ (f / eV size*eV size)+eV size):=by
 intro b hb hi;obtain⟨g1,g2,g3,g4,g5⟩:=Pfx.bd hr;simp only at g1 g2 g3 g4 g5;have s1:=fG g1;have vQ:=(cr.1 hi).1;obtain⟨b1,b2,b3,b4,b5⟩:=Pfx.bd vQ;simp only at b3 b4 b5;rcases H' b at_ with hlt|hle
 ·exact h b hlt hi
 ·
  have hd:eV size ∣ b - at_:=Int.dvd_sub (YH b5) (YH g5);rcases Int.lt_or_eq_of_le hle with hlt|heq
  ·have h1:=sG aa (show 0 < b - at_ by omega) hd;have Ah:b<=f:=by
    have e1:=Int.emod_add_mul_ediv f (eV size);have e2:=Int.emod_nonneg f (b:=eV size) aa;have e3:f / eV size*eV size=eV size*(f / eV size):=Int.mul_comm _ _;rcases Int.le_total at_ (f / eV size*eV size)with hl|hl
    ·rw[_o hl]at hb;have zm:eV size ∣ f / eV size*eV size - b:=Int.dvd_sub ⟨f / eV size,e3⟩ (YH b5);rcases H' (f / eV size*eV size) b with pY|hle2
     ·have:=sG (s:=eV size) (x:=b - f / eV size*eV size) aa aa (by have:=Int.dvd_neg.2 zm;rwa [Int.neg_sub]at this);omega
     ·omega
    ·rw[_r hl]at hb;omega
   obtain⟨k1,k2,k3⟩:=hf;simp only at k1 k3;rcases k3 with k3|⟨u,hu,SL,LL,hfu⟩
   ·omega
   ·obtain⟨_,_,m3,m4⟩:=dY.1 LL;simp only[Pfx.hi]at m3 m4;unfold jH;rw[XR.2 ⟨u,hu,dY.2 ⟨vQ,SL,by simp only;omega,by simp only[Pfx.hi];omega⟩⟩];rfl
  ·subst heq;unfold jH;rw[hm];rfl
theorem NB {root:Pfx}{us:List Pfx}(h:SpaceOK root us){size at_:Int}(mz:root.len<=size)(rP:size<=16)(hi:dS ⟨at_,size⟩ root=true)(hm:us.any (Pfx.meets ⟨at_,size⟩)=false)(hn:Bb root us size at_):oV root us size=(⟨at_,size⟩,true):=by
 obtain⟨q,hq,he⟩:=Ny h mz rP hi (by unfold jH;rw[hm];rfl) hn;unfold oV;rw[hq];simp only[he]
theorem Ky {root:Pfx}{us:List Pfx}(h:SpaceOK root us){size at_:Int}(mz:root.len<=size)(rP:size<=16)(ha:root.hi<=at_)(hn:Bb root us size at_):oV root us size=(Pfx.zero,false):=by
 have:=Nz h mz rP fun b hb=>hn b (by obtain⟨k1,k2,k3,k4⟩:=cr.1 hb;have:=Pfx.hi_bd k1;simp only at this;omega) hb;unfold oV;rw[this]
theorem Kz {A:mZ}(root:Pfx)(us:List Pfx)(uo:Option Addr)(ucap:Nat)(size:Int)(w:World)(h:Sl A w 2 cP uo ucap us)(bD:SpaceOK root us)(mz:root.len<=size)(rP:size<=16):
 Calls prog 223 #[.agg #[.int .i64 root.at_,.int .i64 root.len,.slice uo us.length ucap],.int .i64 size] w fun e w'=>e= .returned (.tuple #[(oV root us size).1.v,.bool (oV root us size).2])/\dy w w':=by
 have gB:=h.cap_le;have LY:=h.cap_max;obtain⟨g1,g2,g3,g4,g5⟩:=root.bd bD.rr;have qy:=root.hi_bd bD.rr;have we:0<=size:=aa;obtain⟨z1,z2⟩:=fG we;have cK:=fun W=>xA size W we rP;have oJ:=sx root.at_ root.len;have uN:lL root.at_ root.len=root.hi - 1:=rfl;have Jq:bC root.at_ root.len=true:=bD.rr;replace oJ:=fun W=>oJ W Jq;rw[uN]at oJ;obtain⟨R,hR⟩:∃R,R=oV root us size:=⟨_,rfl⟩;rw[<-hR];have hRh:=fun at_=>NB (at_:=at_) bD mz rP;have hRm:=fun at_=>Ky (at_:=at_) bD mz rP;rw[<-hR]at hRh hRm;replace hRh:=Xi hRh;replace hRm:=Xi hRm;replace cK:=Xi cK;replace oJ:=Xi oJ;obtain⟨st,dN⟩:∃st,st=eV size:=⟨_,rfl⟩;rw[<-dN]at cK z1 z2;obtain⟨rh,hrh⟩:∃rh,rh=root.hi:=⟨_,rfl⟩;rw[<-hrh]at oJ qy;have HV:=EC root us size;have Pz:root.at_ % st=0:=by
  obtain⟨k,hk,-⟩:=oq g1 mz rP;rw[dN];exact ZE (N' ⟨k,hk⟩ (YH g5))
 replace dN:=Xi dN;replace hrh:=Xi hrh;replace HV:=Xi HV;replace Pz:=Xi Pz;clear hR g5 uN Jq;go_enter func223,ntmps223
 go_wp2_with fail
 refine(cK.out _).mono ?_;rintro e w1 ⟨rfl,rfl⟩;go_wp2_with fail
 go_loopw [7] (fun s7 wr=>∃at_:Int,s7= .int .i64 at_/\root.at_<=at_/\at_<=140000/\Hid (at_ % st=0)/\Hid (Bb root us size at_)/\dy ((w.alloc (.cells #[.int .i64 root.at_,.int .i64 root.len,.slice uo us.length ucap] 151)).alloc (.cells #[.int .i64 0,.int .i64 0] 32)) wr) (fun s7 _=>(200000 - intOf s7).toNat)
 case atStart=>exact⟨root.at_,rfl,ZJ _,by omega,Pz,HV,Below.refl _ _⟩
 case round=>
  obtain⟨at_,rfl,U6,ha2,qu,bQ,hx⟩:=hrel;have FO:=ap (ap (aB _ _) (aB _ _)) hx;obtain⟨Vc,HN⟩:=aX hx;have hzr:=bv hx;(try simp only[Xt,ae,Xy,Xu]at Vc HN hzr)
  have lr:w.heap.size < wr.heap.size:=aa;have lr1:w.heap.size+1 < wr.heap.size:=aa;go_wp2_with fail
  refine(oJ.out _).mono ?_;rintro e w2 ⟨rfl,cM⟩;obtain⟨dV,dH⟩:=aX cM;have dW:=bv cM;(try simp only[Xt,ae,Xy,Xu]at dV dH dW)
  have l2:w.heap.size < w2.heap.size:=aa;have l21:w.heap.size+1 < w2.heap.size:=aa;have t0:w2.cell? ⟨w.heap.size+1,0,none⟩=some (.int .i64 0):=bZ cM (bZ hx ak);have t1:w2.cell? ⟨w.heap.size+1,1,none⟩=some (.int .i64 0):=bZ cM (bZ hx ak);have tf:∀o,w2.frozen? ⟨w.heap.size+1,o,none⟩=false:=fun o=>by rw[dH _ _ lr1,HN _ _ aa];simp
  by_cases hlt:at_<=rh - 1
  ·have hxw:=ap FO cM;have cu:dS ⟨at_,size⟩ root=true:=by
    rw[fH];exact⟨pu (a:=at_) (l:=size) we rP aa aa (by rw[<-dN.out];exact qu.out),bD.rr,mz,U6,by rw[<-hrh.out];show at_ < rh;omega⟩
   have vQ:=(cr.1 cu).1;replace cu:=Xi cu;replace vQ:=Xi vQ;go_wp2_with fail
   obtain⟨wo,VU⟩:∃wo:World,wo=w2.alloc (.cells #[.int .i64 at_,.int .i64 size] 32):=⟨_,rfl⟩;have Ty:dy w2 wo:=by rw[VU];exact aB _ _
   have q0:wo.cell? ⟨w2.heap.size,0,none⟩=some (.int .i64 at_):=by rw[VU];simp
   have q1:wo.cell? ⟨w2.heap.size,1,none⟩=some (.int .i64 size):=by rw[VU];simp
   have s0:wo.cell? ⟨w.heap.size,0,none⟩=some (.int .i64 root.at_):=bZ Ty (bZ cM (bZ hx ak));have s1:wo.cell? ⟨w.heap.size,1,none⟩=some (.int .i64 root.len):=bZ Ty (bZ cM (bZ hx ak));have s2:wo.cell? ⟨w.heap.size,2,none⟩=some (.slice uo us.length ucap):=bZ Ty (bZ cM (bZ hx ak));have t0o:=bZ Ty t0;have t1o:=bZ Ty t1;have tfo:∀o,wo.frozen? ⟨w.heap.size+1,o,none⟩=false:=fun o=>by rw[(aX Ty).2 _ _ l21];exact tf o
   have Vf:=ap hxw Ty;have l3:w2.heap.size < wo.heap.size:=by rw[VU];simp
   have l31:w.heap.size < wo.heap.size:=aa;have l32:w.heap.size+1 < wo.heap.size:=aa;rw[<-VU];clear VU dV dH Vc HN t0 t1 tf oJ;obtain⟨wz,rfl⟩:∃wz:World,wz=wr:=⟨_,rfl⟩;go_loopw [9,10] (fun s9 s10 wr2=>∃(k:Nat) (f:Int),k<=us.length/\s10= .int .i64 k/\s9= .int .i64 f/\at_<=f/\f<=65535/\Hid (IC us ⟨at_,size⟩ k f)/\dy wo wr2) (fun _ s10 _=>us.length - (intOf s10).toNat)
   case atStart=>exact⟨0,at_,XE _,rfl,rfl,ZJ _,by omega,Xi ⟨ZJ _,(by show at_<=65535;omega),.inl rfl⟩,Below.refl _ _⟩
   case round=>
    obtain⟨k,f,hk,rfl,rfl,BE,C9,PA,nS⟩:=hrel;obtain⟨Vc,HN⟩:=aX nS;have a1M:=bv nS;have m1:w.heap.size < wr.heap.size:=aa;have m2:w2.heap.size < wr.heap.size:=aa;have m3:w.heap.size+1 < wr.heap.size:=aa;by_cases kV:k < us.length
    ·have fy:(k:Int) < (us.length:Int):=aa;obtain⟨b,off,cs,rfl,-,bP,hR',fP⟩:=h.elem k kV;replace fP:=fd (ap Vf nS) fP;unfold cP at hR';subst hR';obtain⟨k0,k1⟩:=ke fP;have lb:=dI k0;have SL:=(cr.1 (bD.ins us[k] (Yl kV))).1;have LL:=Yl kV;obtain⟨y,hy⟩:∃y,y=us[k]:=⟨_,rfl⟩;rw[<-hy]at k0 k1 SL LL;have hyb:=y.hi_bd SL;have hm:=sD y.at_ y.len at_ size;have o0:oL y.at_ y.len at_ size=y.meets ⟨at_,size⟩:=fI y ⟨at_,size⟩;rw[o0]at hm;have hl:=fun W=>sx y.at_ y.len W SL;rw[show lL y.at_ y.len=y.hi - 1 from rfl]at hl;obtain⟨q,hq⟩:∃q,q=y.meets ⟨at_,size⟩:=⟨_,rfl⟩;rw[<-hq]at hm;obtain⟨yh,hyh⟩:∃yh,yh=y.hi:=⟨_,rfl⟩;rw[<-hyh]at hl hyb;replace hyh:=Xi hyh;replace hq:=Xi hq;replace hm:=Xi hm;replace hl:=Xi hl;replace SL:=Xi SL;replace LL:=Xi LL;have hya:=(y.bd SL.out).2.2.1;clear fP hy h o0;cases q
     case true=>
      have tH:=NA PA.out LL.out SL.out hq.out.symm;rw[<-hyh.out]at tH;replace tH:=Xi tH;go_wp2_with fail
      refine PX ?_;refine dO ?_;intro w4 C8;obtain⟨Vg,Px⟩:=aX C8;have Pw:=bv C8;(try simp only[Xt,ae,Xy,Xu]at Vg Px Pw)
      go_wp2_with fail
      refine(hl.out _).mono ?_;rintro e w5 ⟨rfl,LM⟩;obtain⟨PB,LN⟩:=aX LM;have PC:=bv LM;(try simp only[Xt,ae,Xy,Xu]at PB LN PC)
      go_wp2_with fail
      go_roundw
      case rel=>exact⟨k+1,max f (yh - 1),by omega,by go_num,rfl,by omega,by omega,tH,ap nS (ap C8 LM)⟩
      case measure=>simp[intOf];omega
     case false=>
      go_wp2_with fail
      refine PX ?_;refine dO ?_;intro w4 C8;obtain⟨Vg,Px⟩:=aX C8;have Pw:=bv C8;(try simp only[Xt,ae,Xy,Xu]at Vg Px Pw)
      go_wp2_with fail
      go_roundw
      case rel=>exact⟨k+1,f,by omega,by go_num,rfl,BE,C9,Xi ⟨PA.out.1,PA.out.2.1,PA.out.2.2⟩,ap nS C8⟩
      case measure=>simp[intOf];omega
    ·have fy:¬(k:Int) < (us.length:Int):=aa;obtain rfl:k=us.length:=aa;have Vh:=fun W (h:Sl A W 2 cP uo ucap us)=>zK root us uo ucap ⟨at_,size⟩ W h;rw[Kx]at Vh;simp only at Vh;obtain⟨q,hq⟩:∃q,q=us.any (Pfx.meets ⟨at_,size⟩):=⟨_,rfl⟩;rw[<-hq]at Vh;replace hq:=Xi hq;replace Vh:=Xi Vh;have hs4:=h.ext (ap Vf nS);have l22:=l21;cases q
     case false=>
      have rM:=hRh.out at_ cu.out hq.out.symm bQ.out;replace rM:=Xi rM;have t0r:=bZ nS t0o;have t1r:=bZ nS t1o;have tfr:∀o,wr.frozen? ⟨w.heap.size+1,o,none⟩=false:=fun o=>by rw[HN _ _ l32];exact tfo o
      go_wp2_with fail
      refine(Vh.out _ hs4).mono ?_;rintro e w5 ⟨rfl,LM⟩;obtain⟨PB,LN⟩:=aX LM;have PC:=bv LM;(try simp only[Xt,ae,Xy,Xu]at PB LN PC)
      have t05:=bZ LM t0r;have t15:=bZ LM t1r;have tf5:∀o,w5.frozen? ⟨w.heap.size+1,o,none⟩=false:=fun o=>by rw[LN _ _ m3];exact tfr o
      go_wp2_with fail
      refine bodyPost_ret ?_ rfl ⟨by rw[rM.out],?_⟩
      ·unfold Pfx.v;simp[results,results223,go_sem,t05,t15]
      ·exact Bel.bel (B:=w.heap.size) (((Bel.refl w).call (ap Vf (ap nS LM))).setCell0 aa _|>.setCell0 aa _)
     case true=>
      have Tz:=GW bQ.out vQ.out PA.out hq.out.symm;rw[<-dN.out]at Tz;have h9:0<=f / st/\f / st*st<=f:=⟨Int.ediv_nonneg aa aa,Int.ediv_mul_le f aa⟩;have h10:=h9.1;have h11:=h9.2;have Pu:0<=f / st*st:=Int.mul_nonneg h10 aa;have mn:(max at_ (f / st*st)+st) % st=0:=by
       rw[Int.add_emod_right];rcases Int.le_total at_ (f / st*st)with hh|hh
       ·rw[_o hh];exact Int.mul_emod_left _ _
       ·rw[_r hh];exact qu.out
      replace Tz:=Xi Tz;replace mn:=Xi mn;clear h9;go_wp2_with fail
      refine(Vh.out _ hs4).mono ?_;rintro e w5 ⟨rfl,LM⟩;obtain⟨PB,LN⟩:=aX LM;have PC:=bv LM;(try simp only[Xt,ae,Xy,Xu]at PB LN PC)
      go_wp2_with fail
      go_roundw
      case rel=>exact⟨_,rfl,by omega,by omega,mn,Tz,ap hx (ap cM (ap Ty (ap nS LM)))⟩
      case measure=>simp[intOf];omega
  ·have LJ:rh - 1 < at_:=aa;have rM:=hRm.out at_ (by rw[<-hrh.out];omega) bQ.out;replace rM:=Xi rM;go_wp2_with fail
   refine bodyPost_ret ?_ rfl ⟨by rw[rM.out],?_⟩
   ·unfold Pfx.zero Pfx.v;simp[results,results223,go_sem,t0,t1]
   ·exact Bel.bel (B:=w.heap.size) (((Bel.refl w).call (ap FO cM)).setCell0 aa _|>.setCell0 aa _)
end
theorem KA [Flo](root:Pfx)(us:List Pfx):ai prog 88 [.agg (GC root us)] (.v (.int .i64 (iP root us))):=by
 refine⟨cS func88 aK rfl,fun M w vs hM hG fD=>?_⟩;obtain⟨v,vs,rfl,h1,fD⟩:=fU fD;rw[ns fD];obtain⟨uo,cap,rfl,hs⟩:=Cc h1;exact(jF root us uo cap w hs).mono fun e w' ⟨he,hx⟩=>⟨_,he,.v _,hx⟩
theorem Cl [Flo](root:Pfx)(us:List Pfx):ai prog 101 [.agg (GC root us)] (.v (.int .i64 (iP root us))):=by
 refine⟨cS func101 aK rfl,fun M w vs hM hG fD=>?_⟩;obtain⟨v,vs,rfl,h1,fD⟩:=fU fD;rw[ns fD];obtain⟨uo,cap,rfl,hs⟩:=Cc h1;have:=xW root us uo cap w hs;rw[Rg]at this;exact this.mono fun e w' ⟨he,hx⟩=>⟨_,he,.v _,hx⟩
theorem Rh [Flo](root:Pfx)(us:List Pfx)(size:Int):ai prog 201 [.agg (GC root us),.v (.int .i64 size)] (.tup [.agg (aS (mv root us size).1),.v (.bool (mv root us size).2.1),.v (.int .i64 (mv root us size).2.2)]):=by
 refine⟨cS func201 aK rfl,fun M w vs hM hG fD=>?_⟩;obtain⟨v,vs,rfl,h1,fD⟩:=fU fD;obtain⟨v,vs,rfl,h2,fD⟩:=fU fD;rw[ns fD];obtain⟨uo,cap,rfl,hs⟩:=Cc h1;rw[ui h2];exact(Re root us uo cap size w hs).mono fun e w' ⟨he,hx⟩=>⟨_,he,Cb rfl rfl,hx⟩
theorem Ri [Flo](root:Pfx)(us:List Pfx)(size:Int)(bD:SpaceOK root us)(h1:root.len<=size)(h2:size<=16):ai prog 223 [.agg (GC root us),.v (.int .i64 size)] (.tup [.agg (aS (oV root us size).1),.v (.bool (oV root us size).2)]):=by
 refine⟨cS func223 aK rfl,fun M w vs hM hG fD=>?_⟩;obtain⟨v,vs,rfl,g1,fD⟩:=fU fD;obtain⟨v,vs,rfl,g2,fD⟩:=fU fD;rw[ns fD];obtain⟨uo,cap,rfl,hs⟩:=Cc g1;rw[ui g2];exact(Kz root us uo cap size w hs bD h1 h2).mono fun e w' ⟨he,hx⟩=>⟨_,he,Cb rfl rfl,hx⟩
theorem a4k {p:Prop}(h:p:=by
 refine pj func90 ntmps90 results90 ?_;exact aY;all_goals exact aO.refl _):p:=h
def gO:List Int->Bool
 |a::b::l=>decide (a<=b)&&gO (b::l)
 |_=>true
theorem rz:∀(l:List Int),gO l=true↔∀j (h:j+1 < l.length),l[j]<=l[j+1]
 |[]=>by simp[gO]
 |[a]=>by simp[gO]
 |a::b::l=>by
  have ih:=rz (b::l);simp only[gO,Xv,decide_eq_true_eq,ih];constructor
  ·exact a2D
  ·exact a3p
theorem GY [Flo](l:List Int)(hl:l.length<=1000000000)(h0:l≠[]):ai prog 177 [.sl 1 (l.map fun n=>[Wb n])] (.v (.bool (gO l))):=by
 have LC:0 < l.length:=Zb.2 h0;have U0:IntKind.i64.wrap ((l.length:Int) - 1)=((l.length - 1:Nat):Int):=by rw[IntKind.wrap_i64];omega
 refine pj func177 ntmps177 results177 ?_;refine aq ?_<;>intros;refine bL ag am (fun m e h=>∃i:Nat,i < l.length/\(∀j (h:j+1 < l.length),i<=j->l[j]<=l[j+1])/\m=i/\e=[(3,.d (.v (.int .i64 i))),(2,.d (.v (.bool false))),(0,.d (.sl 1 (l.map fun n=>[Wb n])))]/\h=[]) _ _ _ ⟨l.length - 1,by omega,fun j h1 h2=>by omega,rfl,rfl,rfl⟩ ?_ ?_
 ·exact wf (x:=[]) (hh:=rfl) (he:=⟨rfl,rfl,rfl,trivial⟩)
 ·rintro m e h ⟨i,hi,bD,hm,rfl,rfl⟩ CL nR;by_cases mC:0 < i
  ·obtain⟨x,hx⟩:∃x,l[i]? =some x:=⟨_,Xj hi⟩;obtain⟨y,hy⟩:∃y,l[i - 1]? =some y:=⟨_,Xj aa⟩;have oX:l[i]=x:=by rw[Xj hi]at hx;exact XU.inj hx
   have zo:l[i - 1]=y:=by rw[Xj aa]at hy;exact XU.inj hy
   have hgt:decide ((i:Int)>0)=true:=by simpa using mC
   have hw:IntKind.i64.wrap ((i:Int) - 1)=((i - 1:Nat):Int):=by rw[IntKind.wrap_i64];omega
   cases hlt:decide (x < y)with
   |true=>
    have Vi:gO l=false:=by
     rw[YB,ne_eq,rz];intro h;have:=h (i - 1) aa;simp only[show i - 1+1=i by omega,oX,zo]at this;simp at hlt;omega
    have C7:=Nm x y;rw[hlt]at C7;exact aY;all_goals(rw[Vi];exact aO.refl _)
   |false=>
    have C7:=Nm x y;rw[hlt]at C7;refine aq ?_<;>intros;refine nR _ _ _ _ _ ?_ ⟨i - 1,by omega,?_,rfl,rfl,rfl⟩ (wf (x:=[]) (hh:=rfl) (he:=⟨rfl,rfl,rfl,trivial⟩))
    ·omega
    ·intro j hj hij;rcases XL (i - 1) j with h1|h1
     ·exact bD j hj aa
     ·obtain rfl:j=i - 1:=aa;simp only[show i - 1+1=i by omega,oX,zo];simp at hlt;omega
  ·have hie:i=0:=aa;have a0l:gO l=true:=(rz l).2 fun j hj=>bD j hj aa;have hgt:decide ((i:Int)>0)=false:=aN;replace hie:=Xi hie;exact aY;all_goals(rw[a0l];exact aO.refl _)
def dZ (n:Int):Bool:=decide (1<=n)&&decide (n<=65536)
theorem Bc [Flo](n:Int):ai prog 87 [.v (.int .i64 n)] (.v (.bool (dZ n))):=by
 cases e1:decide (n>=1)with
 |true=>
  have h1:decide (1<=n)=true:=e1;refine pj func87 ntmps87 results87 ?_;refine aq ?_<;>intros;all_goals(unfold dZ;rw[h1];exact aO.refl _)
 |false=>
  have h1:decide (1<=n)=false:=e1;refine pj func87 ntmps87 results87 ?_;refine aq ?_<;>intros;all_goals(unfold dZ;rw[h1];exact aO.refl _)
def fY (r:Rul)(len:Int):Bool:=gO [len,r.min,r.usual,r.max,16]&&(decide (0<=r.cool)&&decide (r.cool<=1024))
theorem GZ [Flo](r:Rul)(root:Pfx):ai prog 90 [.agg (vV r),.agg (aS root)] (.v (.bool (fY r root.len))):=by
 have hs:=GY [root.len,r.min,r.usual,r.max,16] ak ak;unfold fY;cases h0:gO [root.len,r.min,r.usual,r.max,16]with
 |false=>
  rw[h0]at hs;refine pj func90 ntmps90 results90 ?_;exact aY;all_goals exact aO.refl _
 |true=>
  rw[h0]at hs;show ai _ _ _ (.v (.bool (true&&(decide (r.cool>=0)&&decide (r.cool<=1024)))));cases e1:decide (r.cool>=0)with
  |true=>exact a4k
  |false=>exact a4k
def dC (p:Pol):List Pfx:=p.leases.map (·.at_)
theorem ID [Flo](p:Pol)(hb:p.leases.length<=3518437208882):ai prog 89 [.ept (al p)] (.agg (GC p.root (dC p))):=by
 refine pj func89 ntmps89 results89 ?_;refine aq ?_<;>intros;refine bL ag am (fun m e h=>∃k g:Nat,k<=p.leases.length/\m=p.leases.length - k/\e=[(16,.d (.v (.int .i64 k))),(15,.d (.v (.int .i64 p.leases.length))),(14,.d (.sl 5 (p.leases.map bc))),(3,.ptr 1 0),(2,.ptr 0 0)]/\
  h=[.box 151 [.d (.v (.int .i64 0)),.d (.v (.int .i64 0)),.d (.v (.slice none 0 0))],.box 151 [.d (.v (.int .i64 p.root.at_)),.d (.v (.int .i64 p.root.len)),.own 2 g],.row 32 2 g (ab (((dC p).take k).map aS))]) _ _ _ ⟨0,0,XE _,rfl,rfl,rfl⟩ ?_ ?_
 ·exact(ax ak 1 _ _ 2 _ _ rfl rfl rfl).trans (wf (x:=[]) (hh:=rfl) (he:=⟨rfl,rfl,rfl,rfl,rfl,trivial⟩))
 ·rintro m e h ⟨k,g,hk,hm,rfl,rfl⟩ CL nR;by_cases hlt:k < p.leases.length
  ·obtain⟨l,hl⟩:∃l,p.leases[k]? =some l:=⟨_,Xj hlt⟩;have fy:(k:Int) < (p.leases.length:Int):=aa;have cX:=wi k aa;have wg:(((dC p).take k).length+1)*16<=140737488355328:=by rw[Xo,dC,Xs];omega
   refine aq ?_<;>intros;have hts:(dC p).take (k+1)=(dC p).take k++[l.at_]:=aj (by rw[dC,Xr,hl];rfl);refine nR _ _ _ _ _ ?_ ⟨k+1,g+1,hlt,rfl,rfl,rfl⟩ (wf (x:=[.box 68 ((bc l).map .d)]) (hh:=?_) (he:=⟨rfl,rfl,rfl,rfl,rfl,trivial⟩))
   ·omega
   ·rw[hts,Xn];rfl
  ·obtain rfl:k=p.leases.length:=aa;refine aq ?_<;>intros;rw[XM (by simp[dC])];all_goals exact aO.refl _
theorem a2k {p:Prop}(h:p:=by
 rename_i hp;obtain⟨q1,q2⟩:=S5 hx.out hp;refine hC _ _ _ _ _ aa ⟨j+1,by omega,by omega,rfl,rfl,rfl⟩ ?_;rw[q1,q2];exact ey _ (by rw[gb];exact XA _) rfl ⟨rfl,rfl,rfl,rfl,rfl,trivial⟩ (by rw[gb];simp only[eD,ay,hlt,Jm,decide_true,Yq,Yx]) (by rw[gb];exact gZ _ _ _ _ hbh (by simp only[aQ,aF]) hlt)):p:=h
theorem a2l {p:Prop}(h:p:=by
 rename_i hp;obtain⟨q1,q2⟩:=S6 hx.out hp;refine hC _ _ _ _ _ aa ⟨j+1,by omega,by omega,rfl,rfl,rfl⟩ ?_;rw[q1,q2];exact ey _ (by rw[gb];exact XA _) rfl ⟨rfl,rfl,rfl,rfl,rfl,trivial⟩ (by rw[gb];simp only[eD,ay,hlt,Jm,decide_true,Yq,Yx]) (by rw[gb];exact gZ _ _ _ _ hbh (by simp only[aQ,aF]) hlt)):p:=h
theorem a2s {p:Prop}(h:p:=by
 rw[dN.out.2.1,dN.out.2.2];refine ey [] (by rw[gb];exact XA _) (by rw[uf h k _ hk hlt,Yv]) ⟨rfl,rfl,rfl,rfl,rfl,trivial⟩ (by rw[gb];simp only[eD,ay,hlt,Jm,decide_true,Yq]) (by rw[gb];exact gZ _ _ _ _ hbh (by simp only[aQ,aF]) hlt)):p:=h
theorem a3n {p:Prop}(h:p:=by
 intro h;rw[h]at h2;simp at h2;omega):p:=h
theorem lZ (p:Lse):(bc p).length=5:=rfl
theorem l6 (p:Pol):(al p).length=9:=rfl
theorem Cm [Flo]{α:Type}{enc:α->List D}(l:List α)(i j g:Nat)(hi:i < l.length)(hj:j=i+1):
 MSpec prog 205 [.own 0 g,.d (.v (.int .i64 i)),.d (.v (.int .i64 j))] [.row 68 5 g (ab (l.map enc))] (.own 0 (g+1)) [.row 68 5 (g+1) (ab ((l.eraseIdx i).map enc))]:=by
 have h1:((i:Int)==(j:Int))=false:=aN;have bG:¬ab (l.map enc)=[]:=by cases l<;>simp[ab]at hi ⊢
 have hle:(i:Int)<=(j:Int):=aa;have hle2:(j:Int)<=(l.length:Int):=aa;have mX:(l.map enc).length=l.length:=Xs _;have h2:=mE (ab (l.map enc)) i j l.length (by rw[aH,mX];exact hi) hj (by rw[aH,mX]);rw[aH,mX]at h2;have tJ:=Xi hj;clear hj;have L0:j<=l.length:=by have:=tJ.out;omega
 have FQ:min (l.length - j) (l.length - j)=l.length - j:=Zt _;have hlt:i+(l.length - j)<=l.length:=by have:=tJ.out;omega
 have qs:l.length - (i+(l.length - j))=1:=by have:=tJ.out;omega
 have jq:i+(l.length - j)+1<=l.length:=by have:=tJ.out;omega
 have FR:¬aC (ab (l.map enc)) i (((ab (l.map enc)).drop j).take (l.length - j))=[]:=a3n
 refine mj func205 ntmps205 results205 ?_;have z1z:=@Xo.{0};have z2z:=@XO.{0};refine fl ?_ ?_ ?_ ?_ ?_ ?_ ?_ ?_<;>first|(with_reducible exact True.intro)|intros
 rw[gD];exact po (by rw[mX];exact hi) tJ.out mX.symm
theorem ij [Flo]{α:Type}(enc:α->List D)(l:List α)(hl:l.length<=1000000000):
 MSpec prog 51 [.d (.sl 5 (l.map enc))] [] (.own 0 1) [.row 68 5 1 (ab (l.map enc))]:=by
 cases l with
 |nil=>
  refine sk (pl:=[]) (ql:=[]) fun ao cap=>?_;cases ao with
  |none=>
   simp only[X8];refine mj func51 ntmps51 results51 ?_;have z1z:=@U'.{0};refine fl ?_ ?_ ?_ ?_ ?_ ?_ ?_ ?_<;>first|(with_reducible exact True.intro)|intros
   refine jz (h:=[]) (XA _) 68 5 ?_;exact(gC 0 0 68 5 [] rfl (aW rfl rfl))
  |some a=>
   simp only[X8];refine mj func51 ntmps51 results51 ?_;have z1z:=@Zj.{0};refine fl ?_ ?_ ?_ ?_ ?_ ?_ ?_ ?_<;>first|(with_reducible exact True.intro)|intros
   exact aW rfl rfl
 |cons x l=>
  simp only[XC]at hl;refine mj func51 ntmps51 results51 ?_;have z1z:=@Zj.{0};refine fl ?_ ?_ ?_ ?_ ?_ ?_ ?_ ?_<;>first|(with_reducible exact True.intro)|intros
  all_goals first|omega|exact aW rfl rfl
theorem G0 [Flo](p:Lse->Bool)(l:List Lse)(k g fn:Nat)(caps:List PV)(h:List Chunk)(hk:az h k= .row 68 5 g (ab (l.map bc)))(Jm:aw h.length caps=true)(hbh:aL h.length h=true)(hl:l.length<=1000000000)
 (h5:∃ds,cI (br (az h) 5) caps=some ds/\∀x∈l,ai prog fn (.agg (bc x)::ds) (.v (.bool (p x))))
 (h6:∀(m:List Lse) (b:Chunk),∃ds,cI (vw (az (bw h k (.row 68 5 g (ab (m.map bc)))++[b]))) caps=some ds/\∀x∈l,ai prog fn (.agg (bc x)::ds) (.v (.bool (p x)))):
 MSpec prog 128 [.own k g,.clo fn caps] h (.own k (g+1)) (bw h k (.row 68 5 (g+1) (ab ((l.filter fun x=>!p x).map bc)))):=by
 have hlt:k < h.length:=oc (by rw[hk];simp);obtain⟨ds,SC,zm⟩:=h5;have qQ:=ot lZ p l fn ds hl zm;have hle:h.length<=(bw h k (.row 68 5 (g+1) (ab ((l.filter fun x=>!p x).map bc)))).length:=by rw[sj hlt];exact XA _
 have Ae:aw h.length [.own k g,.clo fn caps]=true:=by simp only[aw,ay,hlt,Jm,decide_true,Yq]
 unfold cq at qQ;cases hf:l.findIdx? p with
 |none=>
  rw[hf]at qQ;replace hf:=Xi hf;refine B9 ag am func128 rfl ntmps128 results128 aK hle Ae hbh ?_;refine fl ?_ ?_ ?_ ?_ ?_ ?_ ?_ ?_<;>first|(with_reducible exact True.intro)|intros
  have he:(l.filter fun x=>!p x)=l:=YY.2 fun x hx=>by
   have:=Yn.1 hf.out x hx;simp[this]
  rw[he];exact gC k g _ _ _ hk (aW rfl rfl)
 |some i0=>
  rw[hf]at qQ;have dN:=AO hf;replace hf:=Xi hf;have a1i:((i0:Int)== -1)=false:=by rw[beq_eq_false_iff_ne];omega
  have co:=wi i0 aa;obtain⟨ga,gb,gc,gd,ge,gf,gg,gi⟩:=T9 hlt;refine B9 ag am func128 rfl ntmps128 results128 aK hle Ae hbh ?_;have dN:=Xi dN;refine fl ?_ ?_ ?_ ?_ ?_ ?_ ?_ ?_<;>first|(with_reducible exact True.intro)|intros
  refine bL ag am (fun m e h'=>∃j,j<=l.length/\i0 < j/\m=l.length - j/\e=[(6,.d (.v (.int .i64 j))),(5,.d (.v (.int .i64 (cv p l j).length))),(4,.d (.v (.slice none 0 0))),(1,.clo fn caps),(0,.own k g)]/\h'=bw h k (.row 68 5 g (ab ((iM p l j).map bc)))) (l.length - (i0+1)) _ _ ⟨i0+1,dN.out.1,by omega,rfl,rfl,rfl⟩ ?_ ?_
  ·exact a2s
  ·rintro m e h' ⟨j,hj,hij,rfl,rfl,rfl⟩ C hC;have wF:=wt p l j;have nQ:=Ih p l j;by_cases Pm:j < l.length
   ·obtain⟨x,hx⟩:∃x,l[j]? =some x:=⟨_,Xj Pm⟩;have LH:(iM p l j)[j]? =some x:=by rw[Ii p l j j wF.1];exact hx
    obtain⟨y,zc⟩:∃y,(iM p l j)[(cv p l j).length]? =some y:=⟨_,Xj aa⟩;have lh:(j:Int) < (l.length:Int):=aa;have cM:=wi j aa;have qP:IntKind.i64.wrap (((cv p l j).length:Int)+1)=(((cv p l j).length+1:Nat):Int):=by rw[IntKind.wrap_i64];omega
    have jq:(cv p l j).length < l.length:=aa;obtain⟨ds2,W7,hd4⟩:=h6 (iM p l j) (.box 68 ((bc x).map .d));have kY:=hd4 x (Xk hx);have hx:=Xi hx;have b9:=bN bc (iM p l j) (cv p l j).length x;simp only[bc,Xl,Xp]at W7 kY b9;refine fl ?_ ?_ ?_ ?_ ?_ ?_ ?_ ?_<;>first|(with_reducible exact True.intro)|intros
    ·exact a2k
    ·exact a2l
   ·obtain rfl:j=l.length:=aa;have hm0:iM p l l.length≠[]:=fun e=>by rw[e]at nQ;simp at nQ;omega
    have hn1:¬ab ((iM p l l.length).map bc)=[]:=by simpa[ab]using hm0
    have Jf:∀z:List PV,(aC (ab ((iM p l l.length).map bc)) (cv p l l.length).length (XS (l.length - (cv p l l.length).length) z)).length=l.length:=fun z=>by
     rw[bt (by simp[aH,nQ];omega)];simp[aH,nQ]
    have P7:∀z:List PV,¬aC (ab ((iM p l l.length).map bc)) (cv p l l.length).length (XS (l.length - (cv p l l.length).length) z)=[]:=fun z e=>by
     have:=Jf z;rw[e]at this;simp at this;omega
    refine fl ?_ ?_ ?_ ?_ ?_ ?_ ?_ ?_<;>first|(with_reducible exact True.intro)|intros
    have tE:=AQ p l;rw[<-tE,ZK];exact AR hlt (by simp[nQ];omega) (by simpa using hm0) (by simp[nQ])
theorem Be [Flo](p:Pol->Bool)(l:List Pol)(k g fn:Nat)(caps:List PV)(h:List Chunk)(hk:az h k= .row 62 9 g (ab (l.map al)))(Jm:aw h.length caps=true)(hbh:aL h.length h=true)(hl:l.length<=1000000000)
 (h5:∃ds,cI (br (az h) 5) caps=some ds/\∀x∈l,ai prog fn (.agg (al x)::ds) (.v (.bool (p x))))
 (h6:∀(m:List Pol) (b:Chunk),∃ds,cI (vw (az (bw h k (.row 62 9 g (ab (m.map al)))++[b]))) caps=some ds/\∀x∈l,ai prog fn (.agg (al x)::ds) (.v (.bool (p x)))):
 MSpec prog 126 [.own k g,.clo fn caps] h (.own k (g+1)) (bw h k (.row 62 9 (g+1) (ab ((l.filter fun x=>!p x).map al)))):=by
 have hlt:k < h.length:=oc (by rw[hk];simp);obtain⟨ds,SC,zm⟩:=h5;have qQ:=A5 l6 p l fn ds hl zm;have hle:h.length<=(bw h k (.row 62 9 (g+1) (ab ((l.filter fun x=>!p x).map al)))).length:=by rw[sj hlt];exact XA _
 have Ae:aw h.length [.own k g,.clo fn caps]=true:=by simp only[aw,ay,hlt,Jm,decide_true,Yq]
 unfold cq at qQ;cases hf:l.findIdx? p with
 |none=>
  rw[hf]at qQ;replace hf:=Xi hf;refine B9 ag am func126 rfl ntmps126 results126 aK hle Ae hbh ?_;refine fl ?_ ?_ ?_ ?_ ?_ ?_ ?_ ?_<;>first|(with_reducible exact True.intro)|intros
  have he:(l.filter fun x=>!p x)=l:=YY.2 fun x hx=>by
   have:=Yn.1 hf.out x hx;simp[this]
  rw[he];exact gC k g _ _ _ hk (aW rfl rfl)
 |some i0=>
  rw[hf]at qQ;have dN:=AO hf;replace hf:=Xi hf;have a1i:((i0:Int)== -1)=false:=by rw[beq_eq_false_iff_ne];omega
  have co:=wi i0 aa;obtain⟨ga,gb,gc,gd,ge,gf,gg,gi⟩:=T9 hlt;refine B9 ag am func126 rfl ntmps126 results126 aK hle Ae hbh ?_;have dN:=Xi dN;refine fl ?_ ?_ ?_ ?_ ?_ ?_ ?_ ?_<;>first|(with_reducible exact True.intro)|intros
  refine bL ag am (fun m e h'=>∃j,j<=l.length/\i0 < j/\m=l.length - j/\e=[(6,.d (.v (.int .i64 j))),(5,.d (.v (.int .i64 (cv p l j).length))),(4,.d (.v (.slice none 0 0))),(1,.clo fn caps),(0,.own k g)]/\h'=bw h k (.row 62 9 g (ab ((iM p l j).map al)))) (l.length - (i0+1)) _ _ ⟨i0+1,dN.out.1,by omega,rfl,rfl,rfl⟩ ?_ ?_
  ·exact a2s
  ·rintro m e h' ⟨j,hj,hij,rfl,rfl,rfl⟩ C hC;have wF:=wt p l j;have nQ:=Ih p l j;by_cases Pm:j < l.length
   ·obtain⟨x,hx⟩:∃x,l[j]? =some x:=⟨_,Xj Pm⟩;have LH:(iM p l j)[j]? =some x:=by rw[Ii p l j j wF.1];exact hx
    obtain⟨y,zc⟩:∃y,(iM p l j)[(cv p l j).length]? =some y:=⟨_,Xj aa⟩;have lh:(j:Int) < (l.length:Int):=aa;have cM:=wi j aa;have qP:IntKind.i64.wrap (((cv p l j).length:Int)+1)=(((cv p l j).length+1:Nat):Int):=by rw[IntKind.wrap_i64];omega
    have jq:(cv p l j).length < l.length:=aa;obtain⟨ds2,W7,hd4⟩:=h6 (iM p l j) (.box 62 ((al x).map .d));have kY:=hd4 x (Xk hx);have hx:=Xi hx;have b9:=bN al (iM p l j) (cv p l j).length x;simp only[al,Xl,Xp]at W7 kY b9;refine fl ?_ ?_ ?_ ?_ ?_ ?_ ?_ ?_<;>first|(with_reducible exact True.intro)|intros
    ·exact a2k
    ·exact a2l
   ·obtain rfl:j=l.length:=aa;have hm0:iM p l l.length≠[]:=fun e=>by rw[e]at nQ;simp at nQ;omega
    have hn1:¬ab ((iM p l l.length).map al)=[]:=by simpa[ab]using hm0
    have Jf:∀z:List PV,(aC (ab ((iM p l l.length).map al)) (cv p l l.length).length (XS (l.length - (cv p l l.length).length) z)).length=l.length:=fun z=>by
     rw[bt (by simp[aH,nQ];omega)];simp[aH,nQ]
    have P7:∀z:List PV,¬aC (ab ((iM p l l.length).map al)) (cv p l l.length).length (XS (l.length - (cv p l l.length).length) z)=[]:=fun z e=>by
     have:=Jf z;rw[e]at this;simp at this;omega
    refine fl ?_ ?_ ?_ ?_ ?_ ?_ ?_ ?_<;>first|(with_reducible exact True.intro)|intros
    have tE:=AQ p l;rw[<-tE,ZK];exact AR hlt (by simp[nQ];omega) (by simpa using hm0) (by simp[nQ])
theorem a3C {p:Prop}(h:p:=by
 have hi:=Bc l.owner;rw[h2]at hi;refine pj func94 ntmps94 results94 ?_;exact aY;all_goals exact aO.refl _):p:=h
def bK (b:Bok)(id:Int):Option Pol:=b.pools.find? fun p=>p.id==id
def ox (l:List Pol):Prop:=l.Pairwise fun a b=>a.id < b.id
theorem KB {α:Type}{key:α->Int}{t:Int}{l:List α}(hs:l.Pairwise fun a b=>key a < key b):(ss key t l=true/\∃p,l[jV key t l]? =some p/\l.find? (fun p=>key p==t)=some p/\key p=t)\/(ss key t l=false/\l.find? (fun p=>key p==t)=none):=by
 have Af:∀q (hq:q < l.length),q < jV key t l->key l[q] < t:=by
  intro q hq hlt;have:=Z5 hlt;simp at this;omega
 cases hx:l[jV key t l]? with
 |none=>
  right;have hb:ss key t l=false:=by unfold ss;rw[hx]
  refine⟨hb,?_⟩;rw[Yr];intro y hy;obtain⟨q,hq,rfl⟩:=XZ.1 hy;have bP:l.length<=jV key t l:=by
   rcases XL (jV key t l) l.length with h|h
   ·rw[Xj h]at hx;cases hx
   ·exact h
  have:=Af q hq aa;simp;omega
 |some p=>
  obtain⟨hlt,hp⟩:=Xm.1 hx;have hge:t<=key p:=by
   have:=z' (xs:=l) (p:=fun x=>decide (t<=key x)) (w:=hlt);rw[show l[List.findIdx (fun x=>decide (t<=key x)) l]'hlt=p from hp]at this;simpa using this
  by_cases he:key p=t
  ·left;have hb:ss key t l=true:=by unfold ss;rw[hx];simpa using he
   refine⟨hb,p,rfl,?_,he⟩;have gz:p∈l:=Xk hx;cases hf:l.find? (fun p=>key p==t)with
   |none=>exact absurd he (by simpa using Yr.1 hf p gz)
   |some q=>
    have hq1:key q=t:=by simpa using Zg hf
    have qz:=YC hf;obtain⟨i,hi,rfl⟩:=XZ.1 qz;rcases Y9 i (jV key t l)with h|h|h
    ·have:=Af i hi h;omega
    ·subst h;rw[Xj hlt]at hx;rw[XU.inj hx]
    ·have:=XH.1 hs _ i hlt hi h;rw[hp]at this;omega
  ·right;have hb:ss key t l=false:=by unfold ss;rw[hx];simpa using he
   refine⟨hb,?_⟩;rw[Yr];intro y hy;obtain⟨i,hi,rfl⟩:=XZ.1 hy;rcases Y9 i (jV key t l)with h|h|h
   ·have:=Af i hi h;simp;omega
   ·subst h;rw[hp];simpa using he
   ·have:=XH.1 hs _ i hlt hi h;rw[hp]at this;simp;omega
theorem G1 [Flo](p:Pol)(t:Int):ai prog 198 [.agg (al p),.v (.int .i64 t)] (.v (.int .i64 (eN p.id t))):=by
 refine pj func198 ntmps198 results198 ?_;have z1z:=nq p.id t;exact aY;all_goals exact aO.refl _
def pF (b:Bok)(id:Int):D:=match bK b id with|some p=> .tup [.ept (al p),.v (.bool true)]|none=> .tup [.v (.pointer none),.v (.bool false)]
theorem oy [Flo](b:Bok)(id:Int)(hb:b.pools.length<=1000000000)(hs:ox b.pools):ai prog 116 [.ept (bj b),.v (.int .i64 id)] (pF b id):=by
 have Da:=ut l6 (fun p=>p.id) b.pools id 198 [] hb hs (fun p _=>G1 p id);unfold pF bK;rcases KB (t:=id) hs with⟨h1,p,h2,h3,-⟩|⟨h1,h2⟩
 ·rw[h1]at Da;rw[h3];refine pj func116 ntmps116 results116 ?_;exact aY;all_goals exact aO.refl _
 ·rw[h1]at Da;rw[h2];refine pj func116 ntmps116 results116 ?_;exact aY;all_goals exact aO.refl _
theorem nF (p q:Pfx):([p.at_,p.len]==[q.at_,q.len])=decide (p=q):=by
 rw[Yi];cases p;cases q;simp
def fg (b:Bok)(p:Pol)(l:Lse):Bool:=
 if l.kind==1 then dZ l.owner&&(l.till==0)
 else if l.kind==2 then (match bK b l.owner with|some q=>(q.up==p.id)&&(decide (q.root=l.at_)&&(l.till==0))|none=>false)
 else if l.kind==3 then (l.owner==0)&&(decide (l.till>b.tick)&&decide (l.till<=b.tick+1024))else false
theorem Rj [Flo](b:Bok)(p:Pol)(l:Lse)(hb:b.pools.length<=1000000000)(hs:ox b.pools)(ht:0<=b.tick/\b.tick<=1073741824):ai prog 94 [.ept (bj b),.ept (al p),.agg (bc l)] (.v (.bool (fg b p l))):=by
 unfold fg;cases h1:l.kind==1 with
 |true=>
  rw[ah rfl];cases h2:dZ l.owner with
  |true=>exact a3C
  |false=>exact a3C
 |false=>
  rw[af ak];cases h2:l.kind==2 with
  |true=>
   rw[ah rfl];have hf:=oy b l.owner hb hs;unfold pF at hf;cases hq:bK b l.owner with
   |none=>
    rw[hq]at hf;refine pj func94 ntmps94 results94 ?_;exact aY;all_goals exact aO.refl _
   |some q=>
    rw[hq]at hf;have he:=nF q.root l.at_;cases h3:q.up==p.id<;>cases h4:decide (q.root=l.at_)<;>rw[h4]at he;all_goals
     refine pj func94 ntmps94 results94 ?_;exact aY;all_goals simp only[h3,h4,Yp,Bool.false_and,Bool.and_false]
     all_goals exact aO.refl _
  |false=>
   rw[af ak];have hw:IntKind.i64.wrap (b.tick+1024)=b.tick+1024:=by rw[IntKind.wrap_i64];omega
   cases h3:l.kind==3 with
   |false=>
    rw[af ak];refine pj func94 ntmps94 results94 ?_;exact aY;all_goals exact aO.refl _
   |true=>
    rw[ah rfl];cases h4:l.owner==0<;>cases h5:decide (l.till>b.tick);all_goals
     refine pj func94 ntmps94 results94 ?_;exact aY;all_goals exact aO.refl _
def mw (id:Int)(l:Lse):Bool:=(l.kind==2)&&(l.owner==id)
theorem NC [Flo](l:Lse)(p:Pol):ai prog 178 [.agg (bc l),.ept [.ept (al p)]] (.v (.bool (mw p.id l))):=by
 unfold mw;cases h1:l.kind==2;all_goals
  refine pj func178 ntmps178 results178 ?_;exact aY;all_goals exact aO.refl _
theorem a3J {p:Prop}(h:p:=by
 have:=(gA p hp).2.1;unfold iP at this;split at this
 ·cases this
 ·rename_i h;simpa[dC]using h):p:=h
def kM (b:Bok):Nat->Pol->Bool
 |0,p=>p.up==0
 |n+1,p=>(p.up==0)||(match bK b p.up with|some q=>q.leases.any (mw p.id)&&kM b n q|none=>false)
theorem KC {b:Bok}{p:Pol}(n:Nat)(h:(p.up==0)=true):kM b n p=true:=by cases n<;>simp[kM,h]
theorem Rk [Flo](b:Bok)(p:Pol)(hb:b.pools.length<=8)(hs:ox b.pools)(hl:∀q∈b.pools,q.leases.length<=1000000000):ai prog 91 [.ept (bj b),.ept (al p)] (.v (.bool (kM b b.pools.length p))):=by
 refine pj func91 ntmps91 results91 ?_;refine aq ?_<;>intros;refine bL ag am (fun m e h=>∃(k:Nat) (q:Pol),k<=b.pools.length/\kM b b.pools.length p=kM b (b.pools.length - k) q/\m=b.pools.length - k/\e=[(12,.d (.v (.int .i64 k))),(11,.d (.v (.int .i64 b.pools.length))),(4,.d (.v (.bool false))),(3,.ptr 0 0),(0,.d (.ept (bj b)))]/\
  h=[.box 147 [.d (.ept (al q))]]) _ _ _ ⟨0,p,XE _,rfl,rfl,rfl,rfl⟩ (wf) ?_
 rintro m e h ⟨k,q,hk,gM,hm,rfl,rfl⟩ CL nR;by_cases hlt:k < b.pools.length
 ·have fy:(k:Int) < (b.pools.length:Int):=aa;have cX:=wi k aa;obtain⟨j,hj⟩:∃j,b.pools.length - k=j+1:=⟨b.pools.length - k - 1,by omega⟩;rw[hj]at gM;replace gM:=Xi gM;replace hj:=Xi hj;replace hm:=Xi hm;cases h0:q.up==0 with
  |true=>
   refine aq ?_<;>intros;rw[gM.out,KC _ h0];exact aO.refl _
  |false=>
   have hf:=oy b q.up aa hs;unfold pF at hf;cases hq:bK b q.up with
   |none=>
    rw[hq]at hf;refine aq ?_<;>intros;rw[gM.out];simp only[kM,h0,hq,ZY];exact aO.refl _
   |some r=>
    rw[hq]at hf;have hr:r∈b.pools:=YC hq;have oZ:=rt lZ (mw q.id) r.leases 178 [.ept [.ept (al q)]] (hl r hr) (fun x _=>NC x q);cases ha:r.leases.any (mw q.id)with
    |false=>
     rw[ha]at oZ;refine aq ?_<;>intros;rw[gM.out];simp only[kM,h0,hq,ha,ZY,Bool.false_and];exact aO.refl _
    |true=>
     rw[ha]at oZ;refine aq ?_<;>intros;refine nR _ _ _ _ _ ?_ ⟨k+1,r,hlt,?_,rfl,rfl,rfl⟩ (wf)
     ·have:=hm.out;omega
     ·rw[gM.out];simp only[kM,h0,hq,ha,ZY,Yp];congr 1;have:=hj.out;omega
 ·obtain rfl:k=b.pools.length:=aa;rw[YE]at gM;replace gM:=Xi gM;refine aq ?_<;>intros;rw[gM.out];exact aO.refl _
theorem ND [Flo](b:Bok)(p:Pol)(l:Lse)(hb:b.pools.length<=1000000000)(hs:ox b.pools)(ht:0<=b.tick/\b.tick<=1073741824):ai prog 93 [.agg (bc l),.ept (bj b),.ept [.ept (al p)]] (.v (.bool (!fg b p l))):=by
 have hl:=Rj b p l hb hs ht;refine pj func93 ntmps93 results93 ?_;exact aY
theorem NE [Flo](p:Pol)(q:Pfx):ai prog 96 [.agg (aS q),.ept [.ept (al p)]] (.v (.bool (p.root.meets q))):=by
 have hm:=qd p.root q;refine pj func96 ntmps96 results96 ?_;exact aY
def eo:Int->List Pol->Bool
 |_,[]=>true
 |last,p::l=>(dZ p.id&&(decide (last < p.id)&&((iP p.root (dC p)==0)&&fY p.rule p.root.len)))&&eo p.id l
def dG (b:Bok):List Pol->List Pfx->Bool
 |[],_=>true
 |p::l,roots=>(kM b b.pools.length p&&p.leases.all (fg b p))&&(if p.up==0 then !(roots.any p.root.meets)&&dG b l (roots++[p.root])else dG b l roots)
def bn (b:Bok):Int:=if b.pools.length>8 then 2 else if b.tick < 0\/b.tick>1073741824 then 1 else if eo 0 b.pools&&dG b b.pools []then 0 else 1
theorem lw:∀(l:List Pol) (last:Int),eo last l=true->ox l/\∀p∈l,last < p.id
 |[],_,_=>⟨List.Pairwise.nil,fun p h=>by simp at h⟩
 |p::l,last,h=>by
  simp only[eo,Xv,decide_eq_true_eq]at h;obtain⟨h1,h2⟩:=lw l p.id h.2;refine⟨YA.2 ⟨fun q hq=>h2 q hq,h1⟩,fun q hq=>?_⟩;rcases XY.1 hq with rfl|hq
  ·exact h.1.2.1
  ·have:=h2 q hq;have:=h.1.2.1;omega
theorem mJ:∀(l:List Pol) (last:Int),eo last l=true->∀p∈l,dZ p.id=true/\iP p.root (dC p)=0/\fY p.rule p.root.len=true
 |p::l,last,h,q,hq=>by
  simp only[eo,Xv,decide_eq_true_eq,beq_iff_eq]at h;rcases XY.1 hq with rfl|hq
  ·exact⟨h.1.1,h.1.2.2.1,h.1.2.2.2⟩
  ·exact mJ l p.id h.2 q hq
theorem kg {α:Type}{l:List α}{k:Nat}{x:α}(h:l[k]? =some x):l.drop k=x::l.drop (k+1):=by
 obtain⟨hk,rfl⟩:=Xm.1 h;exact YN hk
theorem nG [Flo](b:Bok)(hz:∀p∈b.pools,p.leases.length<=3518437208882):ai prog 32 [.agg (bj b)] (.v (.int .i64 (bn b))):=by
 by_cases h8:b.pools.length>8
 ·have h8I:decide ((b.pools.length:Int)>8)=true:=aN;have hr:bn b=2:=by simp[bn,h8]
  rw[hr];refine pj func32 ntmps32 results32 ?_;exact aY
 ·have h8I:decide ((b.pools.length:Int)>8)=false:=aN;by_cases iV:b.tick < 0\/b.tick>1073741824
  ·have hr:bn b=1:=by simp[bn,h8,iV]
   rw[hr];rcases iV with h|h
   ·have h1:decide (b.tick < 0)=true:=by simpa using h
    refine pj func32 ntmps32 results32 ?_;exact aY
   ·have h1:decide (b.tick < 0)=false:=aN;have h2:decide (b.tick>1073741824)=true:=by simpa using h
    refine pj func32 ntmps32 results32 ?_;exact aY
  ·have h1:decide (b.tick < 0)=false:=aN;have h2:decide (b.tick>1073741824)=false:=aN;have ht:0<=b.tick/\b.tick<=1073741824:=aa;have hr:bn b=if eo 0 b.pools&&dG b b.pools []then 0 else 1:=by simp only[bn,h8,iV,if_false]
   rw[hr];replace hr:=Xi hr;replace ht:=Xi ht;refine pj func32 ntmps32 results32 ?_;refine aq ?_<;>intros;refine bL ag am (fun m e h=>∃(k:Nat) (last:Int),k<=b.pools.length/\eo 0 b.pools=eo last (b.pools.drop k)/\m=b.pools.length - k/\e=[(24,.d (.v (.int .i64 k))),(23,.d (.v (.int .i64 b.pools.length))),(3,.d (.v (.int .i64 last))),(2,.d (.v (.int .i64 0))),(1,.ptr 0 0)]/\
    h=[.box 24 ((bj b).map .d)]) _ _ _ ⟨0,0,XE _,rfl,rfl,rfl,rfl⟩ (wf) ?_
   rintro m e h ⟨k,last,hk,gM,hm,rfl,rfl⟩ C hC;by_cases hlt:k < b.pools.length
   ·have fy:(k:Int) < (b.pools.length:Int):=aa;have cX:=wi k aa;obtain⟨p,hp⟩:∃p,b.pools[k]? =some p:=⟨_,Xj hlt⟩;have p5:p∈b.pools:=Xk hp;rw[kg hp]at gM;simp only[eo]at gM;have hi:=Bc p.id;have iV:=ID p (hz p p5);have TA:=KA p.root (dC p);have Al:=GZ p.rule p.root;replace gM:=Xi gM;replace hm:=Xi hm;repeat' (first|(with_reducible refine And.intro ?_ ?_)|(with_reducible refine og (fun _=>?_) (fun _=>?_))|(with_reducible refine ef (fun _=>?_) (fun _=>?_))|(with_reducible refine jA aK)|simp -dsimp only[go_sem,seval, *,bj,al,fy,cX,hp]|((with_reducible refine jB ?_);simp -dsimp only[go_sem,seval,bj,al,fy,cX,hp];first|refine ei (by first|assumption|exact hi|exact iV|exact TA|exact Al) mR ?_|(refine eh gR ?_ ?_ ?_;(solve|(repeat(first|exact aO.refl _|exact aO.nil _|(refine aO.tup ?_)|(refine aO.agg ?_ rfl)|exact trivial|(refine And.intro ?_ ?_))));(solve|exact .inl rfl|exact .inr rfl)))|fail|omega|exact decide_eq_true aa|exact aO.refl _)
    case' pos.refine_1.refine_2.refine_2.refine_2.refine_1=>
     rename_i q1 q2 q3 q4;refine hC _ _ _ _ _ ?_ ⟨k+1,p.id,hlt,?_,rfl,rfl,rfl⟩ (wf)
     ·have:=hm.out;omega
     ·rw[gM.out];have e1:decide (last < p.id)=true:=by simpa using q2
      have e2:(iP p.root (dC p)==0)=true:=by simpa using q3
      rw[q1,e1,e2,q4];rfl
    all_goals
     have hf:eo 0 b.pools=false:=by
      rw[gM.out];clear hC hi iV TA Al hz gM hm hr ht;grind
     rw[hf];exact aO.refl _
   ·obtain rfl:k=b.pools.length:=aa;rw[Y6]at gM;have hf:eo 0 b.pools=true:=by rw[gM];rfl
    obtain⟨PD,-⟩:=lw _ _ hf;have gA:=mJ _ _ hf;have nP:∀p∈b.pools,p.leases.length<=32:=fun p hp=>a3J
    rw[hf];replace hf:=Xi hf;replace gM:=Xi gM;replace hm:=Xi hm;replace gA:=Xi gA;refine aq ?_<;>intros;refine bL ag am (fun m e h=>∃(k g:Nat) (roots:List Pfx),k<=b.pools.length/\dG b b.pools []=dG b (b.pools.drop k) roots/\roots.length<=k/\m=b.pools.length - k/\e=[(71,.d (.v (.int .i64 k))),(70,.d (.v (.int .i64 b.pools.length))),(6,.own 1 g),(2,.d (.v (.int .i64 0))),(1,.ptr 0 0)]/\
     h=[.box 24 ((bj b).map .d),.row 32 2 g (ab (roots.map aS))]) _ _ _ ⟨0,0,[],XE _,rfl,XE _,rfl,rfl,rfl⟩ ((du (XE _) 6 32 2 rfl).trans (wf)) ?_
    rintro m e h ⟨k,g,roots,hk,wk,By,hm,rfl,rfl⟩ C hC;by_cases hlt:k < b.pools.length
    ·have fy:(k:Int) < (b.pools.length:Int):=aa;have cX:=wi k aa;obtain⟨p,hp⟩:∃p,b.pools[k]? =some p:=⟨_,Xj hlt⟩;have p5:p∈b.pools:=Xk hp;rw[kg hp]at wk;simp only[dG]at wk;have gQ:=Rk b p aa PD (fun q hq=>by have:=nP q hq;omega);have gB:=rt lZ (fun l=>!fg b p l) p.leases 93 [.ept (bj b),.ept [.ept (al p)]] (by have:=nP p p5;omega) (fun l _=>ND b p l aa PD ht.out);have hcp:=vf D0 p.root.meets roots 96 [.ept [.ept (al p)]] aa (fun q _=>NE p q);have wg:(roots.length+1)*16<=140737488355328:=aa;replace wk:=Xi wk;replace hm:=Xi hm;have bO:p.leases.all (fg b p)=!(p.leases.any fun l=>!fg b p l):=by simp[List.all_eq_not_any_not]
     replace bO:=Xi bO;repeat' (first|(with_reducible refine And.intro ?_ ?_)|(with_reducible refine og (fun _=>?_) (fun _=>?_))|(with_reducible refine ef (fun _=>?_) (fun _=>?_))|(with_reducible refine jA aK)|simp -dsimp only[go_sem,seval, *,bj,al,fy,cX,hp]|((with_reducible refine jB ?_);simp -dsimp only[go_sem,seval,bj,al,fy,cX,hp];first|refine ei (by first|assumption|exact gQ|exact gB|exact hcp) mR ?_|(refine eh gR ?_ ?_ ?_;(solve|(repeat(first|exact aO.refl _|exact aO.nil _|(refine aO.tup ?_)|(refine aO.agg ?_ rfl)|exact trivial|(refine And.intro ?_ ?_))));(solve|exact .inl rfl|exact .inr rfl)))|fail|omega|exact decide_eq_true aa|exact aO.refl _)
     case' pos.refine_1.refine_2.refine_1.refine_2=>
      rename_i q1 q2 q3 q4;refine hC _ _ _ _ _ ?_ ⟨k+1,g+1,roots++[p.root],hlt,?_,by simp;omega,rfl,rfl,rfl⟩ (wf (hh:=(by simp only[bj,Xn,Xl,Xp,aS];rfl)))
      ·have:=hm.out;omega
      ·rw[wk.out,q1,bO.out,q2,ah q3,q4];rfl
     case' pos.refine_1.refine_2.refine_2=>
      rename_i q1 q2 q3;refine hC _ _ _ _ _ ?_ ⟨k+1,g,roots,hlt,?_,by omega,rfl,rfl,rfl⟩ (wf)
      ·have:=hm.out;omega
      ·rw[wk.out,q1,bO.out,q2,af (by rw[q3];simp)];rfl
     all_goals
      have C9:dG b b.pools []=false:=by
       rw[wk.out,bO.out];clear hC gQ gB hcp hz wk hm hr ht bO;grind
      rw[C9];exact aO.refl _
    ·obtain rfl:k=b.pools.length:=aa;rw[Y6]at wk;replace wk:=Xi wk;refine aq ?_<;>intros;rw[wk.out];exact aO.refl _
theorem a2L {p:Prop}(h:p:=by
 rw[<-ht,Zi]at hq;split at hq
 ·rwa [X6]at hq
 ·cases hq):p:=h
theorem a2R {p:Prop}(h:p:=by
 refine⟨?_,?_,?_,?_,fun b hb _=>?_⟩
 ·rw[rR,FT];rfl
 ·rw[rR,FT];rfl
 ·rw[rR,FT];rfl
 ·rw[rR,FT];simp[ZH]
 ·rw[setRow_other _ _ _ _ aa];exact zh b aa):p:=h
theorem a2W {p:Prop}(h:p:=by
 obtain⟨u,hu⟩:∃u,ys[0]? =some u:=⟨_,Xj aa⟩;have:=LB 0 u hu;rw[hB];rcases XL vb w.heap.size with h|h
 ·exact h
 ·simp[YL,YJ h]at this):p:=h
theorem a3f {p:Prop}(h:p:=by
 unfold Oper.wp;simp only[execOp,ho,resolve,invoke,builtin,Sem.run_bind,Sem.run_pure,Result.andThen_ok,_p,Xl,Xp,hd,hs,hr];exact hK _ _ h):p:=h
theorem a3G {p:Prop}(h:p:=by
 funext k;rw[rY];cases k with
 |zero=>rfl
 |succ k=>rfl):p:=h
theorem a3N {p:Prop}(h:p:=by
 rw[FT];simp only[World.alloc,Array.getElem?_push];rw[af (by show ¬b=w.heap.size;omega)];rfl):p:=h
theorem a4m {p:Prop}(h:p:=by
  rw[SN];simp only[Array.toList_append,X3];rw[Ym aN,XM (by rw[Xo];omega)]):p:=h
theorem a4X {p:Prop}(h:p:=by
 rw[SN];simp[Builtin.zeroCells,Value.cells];omega):p:=h
section
open Go.Proofs
theorem fh {P:Program}{w:World}{dT sT e:TypeId}{ie:TypeInfo}{sz g o dl dc sl sc:Nat}{a:Addr}{cur:Array Value}{E:TypeId}(ys:List Value)
 (ht:P.underlying dT=some (.slice e)) (hi:P.info? e=some ie) (cK:ie.size=sz) (hn:ys.length=ZP sl dl*sz) (tC:∀j u,ys[j]? =some u->w.cell? (a.add j)=some u) (h1:∀u∈ys,u.oneCell'=true)
 (hh:w.heap[g]? =some (.cells cur E (0,0))) (ho:o+ys.length<=cur.size) (ty:TypeId):
 (Builtin.copy_ #[dT,sT] ty #[.slice (some ⟨g,o,none⟩) dl dc,.slice (some a) sl sc]).run P w= .ok (goInt (ZP sl dl)) (w.setRow g (aC cur.toList o ys).toArray):=by
 have hfc:=run_firstCells_some (P:=P) w sz (ZP sl dl) a sl sc ys hn tC;have dN:=run_storeCells_at P g o E ys 0 cur w hh aN h1;have qv:(storeCells ⟨g,o,none⟩ ys).run P w= .ok () (w.setRow g (aC cur.toList o ys).toArray):=by
  rw[dN];simp[aC]
 simp[Builtin.copy_,run_underlying ht,Builtin.lenOf,sizeOf,typeInfo,hi,cK,hfc,qv]
theorem kB {P:Program}(w:World){ops:Array Oper}{rest:List Oper}{o:Oper}{a:Act}{Q:Exit->Act->World->Prop}(hgd:o.guard=none)(d s:Operand)(t t':TypeId)
 (ho:o.op= .call {callee:= .builtin .copy,args:=#[d,s],argTypes:=#[t,t']}) (v u:Value) (hd:a.eval d=v) (hs:a.eval s=u) {v':Value}{w':World}
 (hr:(Builtin.copy_ #[t,t'] o.type #[v,u]).run P w= .ok v' w') (h:wpList P ops Q rest (a.put o.dst v') w'):wpList P ops Q (o::rest) a w:=
 wpList_plain hgd fun _ hK=>a3f
theorem mK {P:Program}{ops:Array Oper}{o:Oper}{a:Act}{w:World}{K:Act->World->Prop}{Q:Exit->Act->World->Prop}{E:Prop}(hg:o.guard=none)(d x:Operand)(dT sT:TypeId)
 (js:o.op=Op.call {callee:=Callee.builtin Builtin.copy,args:=#[d,x],argTypes:=#[dT,sT]}) (v u:Value) (hd:a.eval d=v) (hx:a.eval x=u) {v':Value}{w':World}
 (hr:(Builtin.copy_ #[dT,sT] o.type #[v,u]).run P w= .ok v' w') (hK:K (a.put o.dst v') w'):if Region.wanted o (yielded ops a.tmps)=true then Oper.wp P o a w K Q else E:=by
 have hw:Region.wanted o (yielded ops a.tmps)=true:=by simp[Region.wanted,hg]
 rw[ah hw];unfold Oper.wp;simp only[execOp,js,resolve,invoke,builtin,Sem.run_bind,Sem.run_pure,Result.andThen_ok,_p,Xl,Xp,hd,hx,hr];exact hK
theorem qK {P:Program}(w:World){ops:Array Oper}{rest:List Oper}{o:Oper}{a:Act}{Q:Exit->Act->World->Prop}(hgd:o.guard=none)(d s:Operand)(t t':TypeId)
 (ho:o.op= .call {callee:= .builtin .append,args:=#[d,s],argTypes:=#[t,t']}) (v u:Value) (hd:a.eval d=v) (hs:a.eval s=u) {v':Value}{w':World}
 (hr:(Builtin.append_ #[t,t'] o.type #[v,u]).run P w= .ok v' w') (h:wpList P ops Q rest (a.put o.dst v') w'):wpList P ops Q (o::rest) a w:=
 wpList_plain hgd fun _ hK=>a3f
theorem nH {P:Program}(w:World)(tS tR e:TypeId)(ht:P.underlying tS=some (.slice e))(size:Nat)(hz:∀w,(Go.sizeOf e).run P w= .ok size w)(a b:Addr)(la ca lb cb:Nat)(bG:a.block≠b.block)(sA:TypeId × Nat)(BC:w.shape? a.block=some sA)(L7:sA.2≠0)
 (cur:Array Value) (E:TypeId) (hb:w.heap[b.block]? =some (.cells cur E (0,0))) (hc:cur.size≠0):
 (Extern.SlicesOverlaps.overlaps #[tS,tS] #[tR] #[.slice (some a) la ca,.slice (some b) lb cb]).run P w= .ok (.bool false) w:=by
 have hnb:(a.block !=b.block)=true:=by simpa using bG
 have a1j:(a.block==b.block)=false:=by simpa using bG
 have Ag:w.shape? b.block=some (E,cur.size):=by simp[World.shape?,hb]
 have mB:∀o,w.frozen? ⟨b.block,o,none⟩=false:=fun o=>by simp[World.frozen?,hb]
 have a1k:w.frozen? b=false:=by simp[World.frozen?,hb]
 obtain⟨k,hk⟩:∃k,cur.size=k+1:=⟨cur.size - 1,by omega⟩;rw[hk]at Ag;change Sem.run P (α:=Value) (do
  let some t:=(#[tS,tS]:Array TypeId)[0]? |stuck "slices.overlaps: no parameter types"
  let .slice elem <-underlying t|stuck "slices.overlaps: slice type expected"
  let size <-sizeOf elem
  match (some a:Option Addr),(some b:Option Addr)with
  |some a,some b=>
   if la=0\/lb=0\/size=0 then pure (Value.bool false)
   else if a.block !=b.block&&(<-frozen a)&&(<-frozen b)then unsupported .addressObserved
   else do
    if a.block !=b.block then do
     noView a;noView b
     if <-mayBeOne a b then return Value.bool ((<-choose (.extern "sameAddr.stringBytes" 2))==1)
    pure (Value.bool (a.block==b.block&&a.off < b.off+lb*size&&b.off < a.off+la*size))
  |_,_=>pure (Value.bool false)) w=_
 by_cases h0:la=0\/lb=0\/size=0
 ·simp[run_underlying ht,hz,h0]
 ·obtain⟨tA,nA⟩:=sA;obtain⟨q,rfl⟩:∃q,nA=q+1:=⟨nA - 1,by simp at L7;omega⟩;cases j1:w.frozen? a<;>cases a1l:w.frozen? ⟨a.block,q+1,none⟩<;>
   simp[run_underlying ht,hz,h0,hnb,a1j,frozen,noView,viewAt,mayBeOne,stringish,shape,Sem.run,BC,Ag,j1,a1l,mB,a1k]
def Cn (w:World)(E g sz n:Nat)(zs:List Value)(e:Ending)(w':World):Prop:=
 ∃(G:Nat) (R:List Value),n+1<=G/\G<=9223372036854775807/\R.length=G*sz/\R.take ((n+1)*sz)=zs/\e= .returned (.slice (some ⟨w.heap.size,0,none⟩) (n+1) G)/\OneB w w' (some g)/\w'.heap[w.heap.size]? =some (.cells R.toArray E (0,0))
theorem nI {w:World}{g:Nat}{cur:Array Value}{E:TypeId}(hh:w.heap[g]? =some (.cells cur E (0,0)))(o:Nat):w.cell? ⟨g,o,none⟩=cur[o]? :=by
 simp[YL,hh]
def Uk (w:World)(E sz g n:Nat)(zs:List Value)(e:Ending)(w':World):Prop:=
 ∃v',e= .returned v'/\OwnV w' E sz v' n zs/\OneB w w' (some g)/\(fE v'=some g\/∀b,fE v'=some b->w.heap.size<=b)
theorem vq {w:World}{b o:Nat}{u:Value}(h:w.cell? ⟨b,o,none⟩=some u):∃sA,w.shape? b=some sA/\sA.2≠0:=by
 cases hb:w.heap[b]? with
 |none=>simp[YL,hb]at h
 |some ob=>
  cases ob with
  |cells c e f=>
   have h':c[o]? =some u:=by simpa[YL,hb]using h
   have:=(Yo.1 h').1;exact⟨(e,c.size),by simp[World.shape?,hb],by simp only;omega⟩
  |_=>simp[YL,hb]at h
theorem NF [Flo]{P:Program}{f E sz g i:Nat}{rows:List (List D)}{x:List D}(SM:zB P f)(we:0 < sz)(hi:i < rows.length)
 (raw:∀(w:World) (gb cap vb vo vc:Nat) (cur:Array Value) (xs ys:List Value),w.heap[gb]? =some (.cells cur E (0,0))->cap<=maxLen->rows.length<=cap->cur.size=cap*sz->xs.length=rows.length*sz->cur.toList.take (rows.length*sz)=xs->(∀u∈xs,u.oneCell'=true)->
  ys.length=sz->(∀u∈ys,u.oneCell'=true)->vb≠gb->(∀j u,ys[j]? =some u->w.cell? ⟨vb,vo+j,none⟩=some u)->
  Calls P f #[.slice (some ⟨gb,0,none⟩) rows.length cap,.int .i64 i,.slice (some ⟨vb,vo,none⟩) 1 vc] w (Uk w E sz gb (rows.length+1) (xs.take (i*sz)++ys++xs.drop (i*sz)))):
 MSpec P f [.own 0 g,.d (.v (.int .i64 i)),.d (.sl sz [x])] [.row E sz g (ab rows)] (.own 0 (g+1)) [.row E sz (g+1) (ab (rows.take i++x::rows.drop i))]:=by
 refine⟨SM,XA _,by simp[aw,ay],by simp[aL,aQ,aF],fun X hP hn hm w c vs hr mA=>?_⟩;have bP:=mA.1;match vs,bP with
 |[v0,v1,v2],_=>
  have r0:=mA.2 0 _ v0 rfl rfl;have r1:=ck (mA.2 1 _ v1 rfl rfl);have r2:=ck (mA.2 2 _ v2 rfl rfl);have bG:ab rows≠[]:=fun e=>by
   have:rows.length=0:=by rw[<-aH rows,e];rfl
   omega
  have bo:=hr.chunk 0;cases r0 with
  |own _ _ _ ec h1=>
   obtain⟨gb,cap,rfl⟩:=m9 bo ec bG;obtain⟨cur,xs,q1,q2,q3,q4,q5,q6,q7,q8,q9,q10,q11⟩:=eB bo ec bG;have PE:=bA.one q2 (fun d hd=>by obtain⟨r,hr,hd⟩:=ZL.1 hd;exact q6 r hr d hd);rw[aH]at q3 q4 q8 q10 ec ⊢;cases r1;have hMg:c.M gb:=(hr.mu gb).2 (.inr ⟨0,by
    have Am:0 < cap:=aa;simp only[bs,az,Cx.block,ec,Y5];exact dr Am⟩)
   have Pf:cur.toList.take (rows.length*sz)=xs:=by
    apply Yg;intro j;by_cases hj:j < rows.length*sz
    ·rw[XP hj,X6,q4 j hj]
    ·rw[XN (by rw[Xo];omega),XN aa]
   cases r2 with
   |sl _ _ vb vo vc ff hM hb hc' hm' hr' h1' cf aU hz=>
    obtain⟨ys,y1,-,y2,y3,y4,y5,y6⟩:=wO (w:=w) we (RepD.sl (M:=c.M) sz [x] vb vo vc ff hM hb hc' hm' hr' h1' cf aU hz);have y1':ys.length=sz:=by simpa using y1
    have jL:=raw w gb cap vb vo vc cur xs ys q1 q9 q10 q11 q3 Pf PE y1' y4 (fun e=>hM (e ▸ hMg)) (fun j u hj=>by have:=y3 j u hj;rwa [Addr.add_lit]at this);refine jL.mono fun e w' ⟨v',he,df,eO,kr⟩=>?_;have HW:∀r∈ab (rows.take i++x::rows.drop i),r.length=sz:=fun r hr=>by
     obtain⟨q,hq,rfl⟩:=je hr;rw[Xs];rcases X0.1 hq with h|h
     ·have:=q5 (q.map .d) (XF.2 ⟨q,Yf h,rfl⟩);simpa using this
     ·rcases XY.1 h with rfl|h
      ·exact y5 _ ak
      ·have:=q5 (q.map .d) (XF.2 ⟨q,Yd h,rfl⟩);simpa using this
    have Vj:∀r∈ab (rows.take i++x::rows.drop i),∀d∈r,d.one=true:=fun r hr d hd=>by
     obtain⟨q,hq,rfl⟩:=je hr;rcases X0.1 hq with h|h
     ·exact q6 (q.map .d) (XF.2 ⟨q,Yf h,rfl⟩) d hd
     ·rcases XY.1 h with rfl|h
      ·obtain⟨y,hy,rfl⟩:=XF.1 hd;exact y6 _ ak y hy
      ·exact q6 (q.map .d) (XF.2 ⟨q,Yd h,rfl⟩) d hd
    have hflat:(ab (rows.take i++x::rows.drop i)).flatten=((ab rows).flatten.take (i*sz))++x.map .d++((ab rows).flatten.drop (i*sz)):=by
     rw[<-ju q5,<-lj q5];simp only[ab,Xn,Xl,J',YR,ZK,List.map_drop,X3]
    have pX:bA c w (ab (rows.take i++x::rows.drop i)).flatten (xs.take (i*sz)++ys++xs.drop (i*sz)):=by
     rw[hflat];refine tP (tP ?_ ?_) ?_
     ·have:=q2.part 0 (i*sz);simpa using this
     ·have:=p8 y2;simpa using this
     ·have:=q2.part (i*sz) xs.length;rw[XM (by rw[XO,q2.1];omega),XM (by rw[XO];omega)]at this;exact this
    have Am:0 < cap:=aa;obtain⟨c',s1,s2⟩:=hr.set_row (k:=0) (rows':=ab (rows.take i++x::rows.drop i)) (v':=v') rfl ec (by rw[dr Am];exact eO) (by
     have:(ab (rows.take i++x::rows.drop i)).length=rows.length+1:=by rw[aH,XV,Xo,XC,XO];omega
     rw[this];exact df) (by rw[dr Am];exact kr) pX HW Vj
    have nO:cw [(0,Chunk.row E sz (g+1) (ab (rows.take i++x::rows.drop i)))] (bs [] [.row E sz g (ab rows)]).heap=az [.row E sz (g+1) (ab (rows.take i++x::rows.drop i))]:=a3G
    rw[nO]at s1;exact⟨v',c',he,s2,s1⟩
theorem ED {sz n i:Nat}{cur:List Value}{xs ys:List Value}(hn:n < i+1+n)(hi:i < n)(hc:(n+1)*sz<=cur.length)(hl:xs.length=n*sz)(tB:ys.length=sz)(ht:cur.take (n*sz)=xs):
 (aC (aC cur ((i+1)*sz) (xs.drop (i*sz))) (i*sz) ys).take ((n+1)*sz)=xs.take (i*sz)++ys++xs.drop (i*sz)/\(aC (aC cur ((i+1)*sz) (xs.drop (i*sz))) (i*sz) ys).length=cur.length:=by
 have h1:i*sz<=n*sz:=Yt sz aa;have h2:(i+1)*sz=i*sz+sz:=YX i sz;have h3:(n+1)*sz=n*sz+sz:=YX n sz;have rQ:(xs.drop (i*sz)).length=n*sz - i*sz:=by rw[XO,hl]
 have hA:(aC cur ((i+1)*sz) (xs.drop (i*sz))).length=cur.length:=bt aa;have hB:(aC (aC cur ((i+1)*sz) (xs.drop (i*sz))) (i*sz) ys).length=cur.length:=by rw[bt aa];exact hA
 refine⟨?_,hB⟩;apply Yg;intro q;by_cases hq:q < (n+1)*sz
 ·rw[XP hq,jd aa,jd aa];by_cases c1:q < i*sz
  ·rw[af aa,af aa,X3,XW (by rw[Xo];omega),XP c1,<-ht,XP aa]
  ·by_cases c2:q < i*sz+sz
   ·rw[ah aa,X3,XI (by rw[Xo];omega),XW (by rw[Xo];omega),Xo];congr 1;omega
   ·rw[af aa,ah aa,XI (by rw[XV,Xo];omega)];congr 1;rw[XV,Xo];omega
 ·rw[XN (by rw[Xo];omega),XN (by simp only[XV,Xo,rQ];omega)]
theorem pV:(prog.info? 68).map (fun i=>(i.zero,i.size,i.bytes))=some (some (.agg #[.int .i64 0,.int .i64 0,.int .i64 0,.int .i64 0,.int .i64 0]),5,40):=aK
theorem xY (g cap n i vb vo vc:Nat)(cur:Array Value)(xs ys:List Value)(w:World)(hh:w.heap[g]? =some (.cells cur 68 (0,0)))(hm:cap<=9223372036854775807)(hs:cur.size=cap*5)(hl:xs.length=n*5)(ht:cur.toList.take (n*5)=xs)
 (pZ:∀u∈xs,u.oneCell'=true) (hi:i < n) (jZ:n+1<=cap) (tB:ys.length=5) (Sz:∀u∈ys,u.oneCell'=true) (Pe:vb≠g) (LB:∀j u,ys[j]? =some u->w.cell? ⟨vb,vo+j,none⟩=some u)
 (sA:TypeId × Nat) (BC:w.shape? vb=some sA) (L7:sA.2≠0):
 Calls prog 204 #[.slice (some ⟨g,0,none⟩) n cap,.int .i64 i,.slice (some ⟨vb,vo,none⟩) 1 vc] w fun e w'=>
  e= .returned (.slice (some ⟨g,0,none⟩) (n+1) cap)/\w'=(w.drew.setRow g (aC cur.toList ((i+1)*5) (xs.drop (i*5))).toArray).setRow g (aC (aC cur.toList ((i+1)*5) (xs.drop (i*5))) (i*5) ys).toArray:=by
 obtain⟨i0,mC,Lz,tD,F6⟩:=info_parts pV;have am:prog.follows .mixedOrders=true:=aK;have mU:(i:Int)+1=((i+1:Nat):Int):=aa;obtain⟨j,hj⟩:∃j,j=i+1:=⟨_,rfl⟩;obtain⟨m,HX⟩:∃m,m=n+1:=⟨_,rfl⟩;have cK:∀w,(sizeOf 68).run prog w= .ok 5 w:=fun w=>by simp[sizeOf,typeInfo,mC,tD]
 have ec:∀lb cb,(callFunc 245 #[.slice (some ⟨vb,vo,none⟩) 1 vc,.slice (some ⟨g,j*5,none⟩) lb cb]).run prog w= .ok (.value (.bool false)) w:=fun lb cb=>by
  rw[run_callFunc_extern (fn:=f245) aK aK aK aK (e:=Extern.SlicesOverlaps.overlaps #[60,60] #[4]) aK,
   nH w 60 4 68 underlying60 5 cK ⟨vb,vo,none⟩ ⟨g,j*5,none⟩ 1 vc lb cb Pe sA BC L7 cur 68 hh aa]
  rfl
 have rQ:(xs.drop (i*5)).length=(n - i)*5:=by rw[XO,hl];omega
 have kY:∀q u,xs[q]? =some u->cur[q]? =some u:=fun q u hq=>a2L
 obtain⟨C1,An⟩:∃C1:Array Value,C1=(aC cur.toList (j*5) (xs.drop (i*5))).toArray:=⟨_,rfl⟩;have uO:C1.size=cap*5:=by rw[An,YF,bt aN];simpa using hs
 obtain⟨W1,rR⟩:∃W1,W1=w.drew.setRow g C1:=⟨_,rfl⟩;have HY:∀ty dc sc,(Builtin.copy_ #[60,60] ty #[.slice (some ⟨g,j*5,none⟩) (m - j) dc,.slice (some ⟨g,i*5,none⟩) (m - i) sc]).run prog w.drew= .ok (goInt (ZP (m - i) (m - j))) W1:=fun ty dc sc=>by
  rw[rR,An];exact fh (e:=68) (sz:=5) (xs.drop (i*5)) underlying60 mC tD (by rw[rQ,show ZP (m - i) (m - j)=n - i from (by simp only[B'];split<;>omega)]) (fun q u hq=>by
   rw[Addr.add_lit,nI (w:=w.drew) hh];rw[Yk]at hq;have:=kY _ u hq;rw[<-this]) (fun u hu=>pZ u (Yd hu)) (w:=w.drew) hh (by rw[rQ,hs];omega) ty
 have wj:W1.heap[g]? =some (.cells C1 68 (0,0)):=by rw[rR];exact setRow_heap _ g _ _ _ _ hh
 have HZ:∀(W:World),W=W1->∀ty dc,(Builtin.copy_ #[60,60] ty #[.slice (some ⟨g,i*5,none⟩) (m - i) dc,.slice (some ⟨vb,vo,none⟩) 1 vc]).run prog W= .ok (goInt (ZP 1 (m - i))) (W1.setRow g (aC C1.toList (i*5) ys).toArray):=fun W hW ty dc=>by
  subst hW;exact fh (e:=68) (sz:=5) ys underlying60 mC tD (by rw[tB,show ZP 1 (m - i)=1 from (by simp only[B'];split<;>omega)]) (fun q u hq=>by
   rw[Addr.add_lit,rR];have:=LB q u hq;rw[<-this];exact Zk (a:=⟨vb,vo+q,none⟩) (by rw[setRow_other _ _ _ _ Pe];rfl)) Sz wj (by rw[tB,uO];omega) ty
 have co:IntKind.i64.wrap ((i:Int)+1)=(j:Int):=by rw[IntKind.wrap_i64];omega
 have cM:IntKind.i64.wrap ((n:Int)+1)=(m:Int):=by rw[IntKind.wrap_i64];omega
 have tE:Hid (W1.setRow g (aC C1.toList (i*5) ys).toArray=(w.drew.setRow g (aC cur.toList ((i+1)*5) (xs.drop (i*5))).toArray).setRow g (aC (aC cur.toList ((i+1)*5) (xs.drop (i*5))) (i*5) ys).toArray):=by
  show W1.setRow g (aC C1.toList (i*5) ys).toArray=_;rw[rR,An,hj]
 have Vk:¬((i:Int)=(n:Int)):=aa;have jQ:i<=n:=aa;have jT:¬(cap=j):=aa;have Tt:¬(cap=i):=aa;have hb4:j<=m:=aa;have hb5:i<=m:=aa;have hb6:m<=cap:=aa;have hb7:¬((cap:Int) < (m:Int)):=aa;rw[<-HX];have L0:=Xi hj;have iL:=Xi HX;have hW:=Xi rR;have hC:=Xi An;clear hj HX rR An ht hl hs tB uO rQ kY mU wj Lz tD F6 hh;go_enter func204,ntmps204
 go_wp2_with (simp only[ec])
 go_region_law_o (refine mK rfl _ _ 60 60 rfl _ _ (by simp[Act.eval,Act.put]) (by simp[Act.eval,Act.put]) (HY _ _ _) ?_)
 go_wp2_with (at_builtin;refine kB _ rfl _ _ 60 60 rfl _ _ rfl rfl (HZ _ rfl _ _) ?_)
 go_ret
 exact⟨rfl,tE.out⟩
theorem xZ (g cap n i vb vo vc:Nat)(cur:Array Value)(xs ys:List Value)(w:World)(hh:w.heap[g]? =some (.cells cur 68 (0,0)))(hm:cap<=1000000000)(LX:n<=cap)(hs:cur.size=cap*5)(hl:xs.length=n*5)(ht:cur.toList.take (n*5)=xs)
 (pZ:∀u∈xs,u.oneCell'=true) (hi:i < n) (jZ:¬n+1<=cap) (tB:ys.length=5) (Sz:∀u∈ys,u.oneCell'=true) (LB:∀j u,ys[j]? =some u->w.cell? ⟨vb,vo+j,none⟩=some u):
 Calls prog 204 #[.slice (some ⟨g,0,none⟩) n cap,.int .i64 i,.slice (some ⟨vb,vo,none⟩) 1 vc] w (Cn w 68 g 5 n (xs.take (i*5)++ys++xs.drop (i*5))):=by
 obtain⟨i0,mC,Lz,tD,F6⟩:=info_parts pV;have am:prog.follows .mixedOrders=true:=aK;obtain⟨j,hj⟩:∃j,j=i+1:=⟨_,rfl⟩;obtain⟨m,HX⟩:∃m,m=n+1:=⟨_,rfl⟩;obtain⟨k,hk⟩:∃k,k=m - i:=⟨_,rfl⟩;obtain⟨B,hB⟩:∃B,B=w.heap.size:=⟨_,rfl⟩;have hgB:g < B:=by rw[hB];exact ng hh
 have Pv:vb < B:=a2W
 have kY:∀q u,xs[q]? =some u->cur[q]? =some u:=fun q u hq=>a2L
 have hold:(Builtin.firstCells i0.size i (.slice (some ⟨g,0,none⟩) i cap)).run prog w.drew= .ok (xs.take (i*5)).toArray w.drew:=by
  rw[tD];exact run_firstCells_some w.drew 5 i ⟨g,0,none⟩ i cap (xs.take (i*5)) (by rw[Xo];omega) (fun q u hq=>by
   rw[Addr.add_lit,nI (w:=w.drew) hh,Xw];rw[Zi]at hq;split at hq
   ·exact kY q u hq
   ·cases hq)
 obtain⟨G,hG⟩:∃G,G=grownCap w (i+k) cap 68:=⟨_,rfl⟩;have Vl:i+k=m:=aa;have hGm:m<=G:=by rw[hG,Vl];exact grownCap_ge w _ _ _
 have Vm:G<=9223372036854775807:=by
  have:=grownCap_le_maxLen w (i+k) cap 68 Qf;rw[<-hG]at this;unfold maxLen at this;omega
 obtain⟨C0,SN⟩:∃C0:Array Value,C0=(xs.take (i*5)).toArray++Builtin.zeroCells (Value.agg #[.int .i64 0,.int .i64 0,.int .i64 0,.int .i64 0,.int .i64 0]).cells k++Builtin.zeroCells (Value.agg #[.int .i64 0,.int .i64 0,.int .i64 0,.int .i64 0,.int .i64 0]).cells (G - m):=⟨_,rfl⟩;have hz3:∀ty,(Builtin.append_ #[60,3] ty #[.slice (some ⟨g,0,none⟩) i cap,.int .i64 ((m:Int) - (i:Int))]).run prog w= .ok (.slice (some ⟨B,0,none⟩) m G) (w.drew.alloc (.cells C0 68)):=fun ty=>by
  have hz:=Lib.run_append_grow_zeros (P:=prog) w 60 3 ty 68 i0 _ .i64 .i64 underlying60 underlying3 mC Lz (some ⟨g,0,none⟩) i cap (xs.take (i*5)) hold k aa aa aa aa (by rw[F6];omega) (by rw[F6];exact growslice_fits aa aa);rw[<-hG,Vl,<-hB]at hz;rw[show (m:Int) - (i:Int)=(k:Int) by omega,hz,SN]
 have H0:C0.size=G*5:=a4X
 obtain⟨W0,FT⟩:∃W0,W0=w.drew.alloc (.cells C0 68):=⟨_,rfl⟩;rw[<-FT]at hz3;have SO:W0.heap[B]? =some (.cells C0 68 (0,0)):=by rw[FT,hB];exact jt w.drew _
 have zg:∀b,b < B->W0.heap[b]? =w.heap[b]? :=fun b hb=>a3N
 obtain⟨C1,An⟩:∃C1:Array Value,C1=(aC C0.toList (i*5) ys).toArray:=⟨_,rfl⟩;have uO:C1.size=G*5:=by rw[An,YF,bt aN];simpa using H0
 obtain⟨W1,rR⟩:∃W1,W1=W0.setRow B C1:=⟨_,rfl⟩;have HY:∀ty dc,(Builtin.copy_ #[60,60] ty #[.slice (some ⟨B,i*5,none⟩) (m - i) dc,.slice (some ⟨vb,vo,none⟩) 1 vc]).run prog W0= .ok (goInt (ZP 1 (m - i))) W1:=fun ty dc=>by
  rw[rR,An];exact fh (e:=68) (sz:=5) ys underlying60 mC tD (by rw[tB,show ZP 1 (m - i)=1 from (by simp only[B'];split<;>omega)]) (fun q u hq=>by
   rw[Addr.add_lit];rw[<-LB q u hq];exact Zk (a:=⟨vb,vo+q,none⟩) (zg vb Pv)) Sz SO (by rw[tB,H0];omega) ty
 have wj:W1.heap[B]? =some (.cells C1 68 (0,0)):=by rw[rR];exact setRow_heap _ B _ _ _ _ SO
 have zh:∀b,b < B->W1.heap[b]? =w.heap[b]? :=fun b hb=>by rw[rR,setRow_other _ _ _ _ aa];exact zg b hb
 have rQ:(xs.drop (i*5)).length=(n - i)*5:=by rw[XO,hl];omega
 have HZ:∀ty dc sc,(Builtin.copy_ #[60,60] ty #[.slice (some ⟨B,j*5,none⟩) (m - j) dc,.slice (some ⟨g,i*5,none⟩) (n - i) sc]).run prog W1.drew= .ok (goInt (ZP (n - i) (m - j))) (W1.drew.setRow B (aC C1.toList (j*5) (xs.drop (i*5))).toArray):=fun ty dc sc=>by
  exact fh (e:=68) (sz:=5) (xs.drop (i*5)) underlying60 mC tD (by rw[rQ,show ZP (n - i) (m - j)=n - i from (by simp only[B'];split<;>omega)]) (fun q u hq=>by
   rw[Addr.add_lit,nI (w:=W1.drew) (show W1.heap[g]? =_ from (zh g hgB).trans hh)];rw[Yk]at hq;have:=kY _ u hq;rw[<-this]) (fun u hu=>pZ u (Yd hu)) (w:=W1.drew) wj (by rw[rQ,uO];omega) ty
 have hR:Hid (∀e,e=Ending.returned (.slice (some ⟨B,0,none⟩) m G)->Cn w 68 g 5 n (xs.take (i*5)++ys++xs.drop (i*5)) e (W1.drew.setRow B (aC C1.toList (j*5) (xs.drop (i*5))).toArray)):=by
  intro e he;refine⟨G,aC C1.toList (j*5) (xs.drop (i*5)),by omega,Vm,?_,?_,by rw[he,hB,HX],?_,?_⟩
  ·rw[bt (by rw[rQ];simp;omega)];simpa using uO
  ·rw[An,YZ];have e1:C0.toList.take (i*5)=xs.take (i*5):=a4m
   rw[show (n+1)*5=j*5+(xs.drop (i*5)).length by rw[rQ];omega];unfold aC;rw[Ym aN,XM aN];congr 1;rw[e1,Ym aN,XM aN]
  ·exact a2R
  ·rw[<-hB];exact setRow_heap W1.drew B _ _ _ _ wj
 have co:IntKind.i64.wrap ((i:Int)+1)=(j:Int):=by rw[IntKind.wrap_i64];omega
 have cM:IntKind.i64.wrap ((n:Int)+1)=(m:Int):=by rw[IntKind.wrap_i64];omega
 have qP:IntKind.i64.wrap ((m:Int) - (i:Int))=(m:Int) - (i:Int):=by rw[IntKind.wrap_i64];omega
 have Vk:¬((i:Int)=(n:Int)):=aa;have jQ:i<=n:=aa;have jT:¬(G=j):=aa;have Tt:¬(G=i):=aa;have hb4:j<=m:=aa;have hb5:i<=m:=aa;have hb6:i<=cap:=aa;have hb7:(cap:Int) < (m:Int):=aa;have hb8:¬(cap=i):=aa;have hb9:j<=G:=aa;have a1m:i<=G:=aa;clear hold H0 uO rQ tB hl hs ht hh SO wj zg zh kY Vl Lz tD F6 hG FT rR SN An hk hj HX hB jZ;go_enter func204,ntmps204
 go_wp2_with (at_builtin;first|refine qK _ rfl _ _ 60 3 rfl _ _ rfl rfl (hz3 _) ?_|refine kB _ rfl _ _ 60 60 rfl _ _ rfl rfl (HY _ _) ?_)
 go_region_law_o (refine mK rfl _ _ 60 60 rfl _ _ (by simp[Act.eval,Act.put]) (by simp[Act.eval,Act.put]) (HZ _ _ _) ?_)
 go_wp2_with fail
 go_ret
 exact hR.out _ rfl
theorem Co [Flo](l:List Lse)(x:Lse)(i g:Nat)(hi:i<=l.length)(hl:l.length<=1000000):
 MSpec prog 204 [.own 0 g,.d (.v (.int .i64 i)),.d (.sl 5 [bc x])] [.row 68 5 g (ab (l.map bc))] (.own 0 (g+1)) [.row 68 5 (g+1) (ab ((l.take i++x::l.drop i).map bc))]:=by
 rcases XL i l.length with hlt|hge
 ·have h1:=NF (P:=prog) (f:=204) (E:=68) (sz:=5) (g:=g) (i:=i) (rows:=l.map bc) (x:=bc x) (cS func204 aK rfl) aa (by simpa using hlt) (by
   simp only[Xs];intro w gb cap vb vo vc cur xs ys q1 q2 q3 q4 q5 q6 q7 q8 q9 q10 q11;obtain⟨u,hu⟩:∃u,ys[0]? =some u:=⟨_,Xj aa⟩;obtain⟨sA,BC,L7⟩:=vq (q11 0 u hu);unfold maxLen at q2;by_cases jZ:l.length+1<=cap
   ·refine(xY gb cap l.length i vb vo vc cur xs ys w q1 aa q4 q5 q6 q7 hlt jZ q8 q9 q10 q11 sA BC L7).mono ?_;rintro e w' ⟨rfl,rfl⟩;obtain⟨t1,t2⟩:=ED (sz:=5) (n:=l.length) (i:=i) (cur:=cur.toList) (xs:=xs) (ys:=ys) aa hlt aN q5 q8 q6;have Tu:(w.drew.setRow gb (aC cur.toList ((i+1)*5) (xs.drop (i*5))).toArray).heap[gb]? =some (.cells (aC cur.toList ((i+1)*5) (xs.drop (i*5))).toArray 68 (0,0)):=setRow_heap _ gb _ _ _ _ q1;refine⟨_,rfl,.row gb (l.length+1) cap _ _ aa (setRow_heap _ gb _ _ _ _ Tu) jZ q2 (by rw[YF,t2];simpa using q4) (by rw[<-t1,Xo,t2];simp;omega) (by rw[YZ];exact t1),⟨rfl,rfl,rfl,by simp[ZH],fun b hb bG=>?_⟩,.inl (dr aa)⟩;have cV:b≠gb:=fun e=>bG (by rw[e]);rw[setRow_other _ _ _ _ cV,setRow_other _ _ _ _ cV];rfl
   ·refine(xZ gb cap l.length i vb vo vc cur xs ys w q1 aa q3 q4 q5 q6 q7 hlt jZ q8 q9 q11).mono ?_;rintro e w' ⟨G,R,h1,h2,h3,h4,rfl,h6,h7⟩;exact⟨_,rfl,.row w.heap.size (l.length+1) G R.toArray _ aa h7 h1 h2 (by simpa using h3) (by rw[<-h4,Xo,h3];omega) (by simpa using h4),h6,.inr fun b hb=>by rw[dr aa]at hb;cases hb;exact XA _⟩)
  rw[Xn,ZK,Xl,List.map_drop];exact h1
 ·obtain rfl:i=l.length:=aa;rw[Xq,Y6];by_cases h0:l=[]
  ·subst h0;refine mj func204 ntmps204 results204 ?_;repeat' (first|(with_reducible refine And.intro ?_ ?_)|(with_reducible refine og (fun _=>?_) (fun _=>?_))|(with_reducible refine ef (fun _=>?_) (fun _=>?_))|(with_reducible refine jA aK)|simp -dsimp only[go_sem,seval, *,bc,ab,YI]|((with_reducible refine jB ?_);simp -dsimp only[go_sem,seval,bc,ab,YI];first|refine ei L8 mR ?_|refine eh gR (by repeat(first|exact aO.refl _|exact aO.nil _|(refine aO.tup ?_)|(refine aO.agg ?_ rfl)|exact trivial|(refine And.intro ?_ ?_))) mR ?_)|omega|exact decide_eq_true aa|exact aO.refl _)
   all_goals exact aW rfl rfl
  ·have bG:¬ab (l.map bc)=[]:=by simpa[ab]using h0
   refine mj func204 ntmps204 results204 ?_;refine fl ?_ ?_ ?_ ?_ ?_ ?_ ?_ ?_<;>first|(with_reducible exact True.intro)|intros
   all_goals exact aW rfl (by simp[bc,ab])
theorem qN:(prog.info? 62).map (fun i=>(i.zero,i.size,i.bytes))=some (some (.agg #[.int .i64 0,.int .i64 0,.int .i64 0,.int .i64 0,.int .i64 0,.int .i64 0,.int .i64 0,.int .i64 0,.slice none 0 0]),9,88):=aK
theorem zM (g cap n i vb vo vc:Nat)(cur:Array Value)(xs ys:List Value)(w:World)(hh:w.heap[g]? =some (.cells cur 62 (0,0)))(hm:cap<=9223372036854775807)(hs:cur.size=cap*9)(hl:xs.length=n*9)(ht:cur.toList.take (n*9)=xs)
 (pZ:∀u∈xs,u.oneCell'=true) (hi:i < n) (jZ:n+1<=cap) (tB:ys.length=9) (Sz:∀u∈ys,u.oneCell'=true) (Pe:vb≠g) (LB:∀j u,ys[j]? =some u->w.cell? ⟨vb,vo+j,none⟩=some u)
 (sA:TypeId × Nat) (BC:w.shape? vb=some sA) (L7:sA.2≠0):
 Calls prog 200 #[.slice (some ⟨g,0,none⟩) n cap,.int .i64 i,.slice (some ⟨vb,vo,none⟩) 1 vc] w fun e w'=>
  e= .returned (.slice (some ⟨g,0,none⟩) (n+1) cap)/\w'=(w.drew.setRow g (aC cur.toList ((i+1)*9) (xs.drop (i*9))).toArray).setRow g (aC (aC cur.toList ((i+1)*9) (xs.drop (i*9))) (i*9) ys).toArray:=by
 obtain⟨i0,mC,Lz,tD,F6⟩:=info_parts qN;have am:prog.follows .mixedOrders=true:=aK;have mU:(i:Int)+1=((i+1:Nat):Int):=aa;obtain⟨j,hj⟩:∃j,j=i+1:=⟨_,rfl⟩;obtain⟨m,HX⟩:∃m,m=n+1:=⟨_,rfl⟩;have cK:∀w,(sizeOf 62).run prog w= .ok 9 w:=fun w=>by simp[sizeOf,typeInfo,mC,tD]
 have ec:∀lb cb,(callFunc 242 #[.slice (some ⟨vb,vo,none⟩) 1 vc,.slice (some ⟨g,j*9,none⟩) lb cb]).run prog w= .ok (.value (.bool false)) w:=fun lb cb=>by
  rw[run_callFunc_extern (fn:=f242) aK aK aK aK (e:=Extern.SlicesOverlaps.overlaps #[22,22] #[4]) aK,
   nH w 22 4 62 underlying22 9 cK ⟨vb,vo,none⟩ ⟨g,j*9,none⟩ 1 vc lb cb Pe sA BC L7 cur 62 hh aa]
  rfl
 have rQ:(xs.drop (i*9)).length=(n - i)*9:=by rw[XO,hl];omega
 have kY:∀q u,xs[q]? =some u->cur[q]? =some u:=fun q u hq=>a2L
 obtain⟨C1,An⟩:∃C1:Array Value,C1=(aC cur.toList (j*9) (xs.drop (i*9))).toArray:=⟨_,rfl⟩;have uO:C1.size=cap*9:=by rw[An,YF,bt aN];simpa using hs
 obtain⟨W1,rR⟩:∃W1,W1=w.drew.setRow g C1:=⟨_,rfl⟩;have HY:∀ty dc sc,(Builtin.copy_ #[22,22] ty #[.slice (some ⟨g,j*9,none⟩) (m - j) dc,.slice (some ⟨g,i*9,none⟩) (m - i) sc]).run prog w.drew= .ok (goInt (ZP (m - i) (m - j))) W1:=fun ty dc sc=>by
  rw[rR,An];exact fh (e:=62) (sz:=9) (xs.drop (i*9)) underlying22 mC tD (by rw[rQ,show ZP (m - i) (m - j)=n - i from (by simp only[B'];split<;>omega)]) (fun q u hq=>by
   rw[Addr.add_lit,nI (w:=w.drew) hh];rw[Yk]at hq;have:=kY _ u hq;rw[<-this]) (fun u hu=>pZ u (Yd hu)) (w:=w.drew) hh (by rw[rQ,hs];omega) ty
 have wj:W1.heap[g]? =some (.cells C1 62 (0,0)):=by rw[rR];exact setRow_heap _ g _ _ _ _ hh
 have HZ:∀(W:World),W=W1->∀ty dc,(Builtin.copy_ #[22,22] ty #[.slice (some ⟨g,i*9,none⟩) (m - i) dc,.slice (some ⟨vb,vo,none⟩) 1 vc]).run prog W= .ok (goInt (ZP 1 (m - i))) (W1.setRow g (aC C1.toList (i*9) ys).toArray):=fun W hW ty dc=>by
  subst hW;exact fh (e:=62) (sz:=9) ys underlying22 mC tD (by rw[tB,show ZP 1 (m - i)=1 from (by simp only[B'];split<;>omega)]) (fun q u hq=>by
   rw[Addr.add_lit,rR];have:=LB q u hq;rw[<-this];exact Zk (a:=⟨vb,vo+q,none⟩) (by rw[setRow_other _ _ _ _ Pe];rfl)) Sz wj (by rw[tB,uO];omega) ty
 have co:IntKind.i64.wrap ((i:Int)+1)=(j:Int):=by rw[IntKind.wrap_i64];omega
 have cM:IntKind.i64.wrap ((n:Int)+1)=(m:Int):=by rw[IntKind.wrap_i64];omega
 have tE:Hid (W1.setRow g (aC C1.toList (i*9) ys).toArray=(w.drew.setRow g (aC cur.toList ((i+1)*9) (xs.drop (i*9))).toArray).setRow g (aC (aC cur.toList ((i+1)*9) (xs.drop (i*9))) (i*9) ys).toArray):=by
  show W1.setRow g (aC C1.toList (i*9) ys).toArray=_;rw[rR,An,hj]
 have Vk:¬((i:Int)=(n:Int)):=aa;have jQ:i<=n:=aa;have jT:¬(cap=j):=aa;have Tt:¬(cap=i):=aa;have hb4:j<=m:=aa;have hb5:i<=m:=aa;have hb6:m<=cap:=aa;have hb7:¬((cap:Int) < (m:Int)):=aa;rw[<-HX];have L0:=Xi hj;have iL:=Xi HX;have hW:=Xi rR;have hC:=Xi An;clear hj HX rR An ht hl hs tB uO rQ kY mU wj Lz tD F6 hh;go_enter func200,ntmps200
 go_wp2_with (simp only[ec])
 go_region_law_o (refine mK rfl _ _ 22 22 rfl _ _ (by simp[Act.eval,Act.put]) (by simp[Act.eval,Act.put]) (HY _ _ _) ?_)
 go_wp2_with (at_builtin;refine kB _ rfl _ _ 22 22 rfl _ _ rfl rfl (HZ _ rfl _ _) ?_)
 go_ret
 exact⟨rfl,tE.out⟩
theorem zN (g cap n i vb vo vc:Nat)(cur:Array Value)(xs ys:List Value)(w:World)(hh:w.heap[g]? =some (.cells cur 62 (0,0)))(hm:cap<=1000000000)(LX:n<=cap)(hs:cur.size=cap*9)(hl:xs.length=n*9)(ht:cur.toList.take (n*9)=xs)
 (pZ:∀u∈xs,u.oneCell'=true) (hi:i < n) (jZ:¬n+1<=cap) (tB:ys.length=9) (Sz:∀u∈ys,u.oneCell'=true) (LB:∀j u,ys[j]? =some u->w.cell? ⟨vb,vo+j,none⟩=some u):
 Calls prog 200 #[.slice (some ⟨g,0,none⟩) n cap,.int .i64 i,.slice (some ⟨vb,vo,none⟩) 1 vc] w (Cn w 62 g 9 n (xs.take (i*9)++ys++xs.drop (i*9))):=by
 obtain⟨i0,mC,Lz,tD,F6⟩:=info_parts qN;have am:prog.follows .mixedOrders=true:=aK;obtain⟨j,hj⟩:∃j,j=i+1:=⟨_,rfl⟩;obtain⟨m,HX⟩:∃m,m=n+1:=⟨_,rfl⟩;obtain⟨k,hk⟩:∃k,k=m - i:=⟨_,rfl⟩;obtain⟨B,hB⟩:∃B,B=w.heap.size:=⟨_,rfl⟩;have hgB:g < B:=by rw[hB];exact ng hh
 have Pv:vb < B:=a2W
 have kY:∀q u,xs[q]? =some u->cur[q]? =some u:=fun q u hq=>a2L
 have hold:(Builtin.firstCells i0.size i (.slice (some ⟨g,0,none⟩) i cap)).run prog w.drew= .ok (xs.take (i*9)).toArray w.drew:=by
  rw[tD];exact run_firstCells_some w.drew 9 i ⟨g,0,none⟩ i cap (xs.take (i*9)) (by rw[Xo];omega) (fun q u hq=>by
   rw[Addr.add_lit,nI (w:=w.drew) hh,Xw];rw[Zi]at hq;split at hq
   ·exact kY q u hq
   ·cases hq)
 obtain⟨G,hG⟩:∃G,G=grownCap w (i+k) cap 62:=⟨_,rfl⟩;have Vl:i+k=m:=aa;have hGm:m<=G:=by rw[hG,Vl];exact grownCap_ge w _ _ _
 have Vm:G<=9223372036854775807:=by
  have:=grownCap_le_maxLen w (i+k) cap 62 Qf;rw[<-hG]at this;unfold maxLen at this;omega
 obtain⟨C0,SN⟩:∃C0:Array Value,C0=(xs.take (i*9)).toArray++Builtin.zeroCells (Value.agg #[.int .i64 0,.int .i64 0,.int .i64 0,.int .i64 0,.int .i64 0,.int .i64 0,.int .i64 0,.int .i64 0,.slice none 0 0]).cells k++Builtin.zeroCells (Value.agg #[.int .i64 0,.int .i64 0,.int .i64 0,.int .i64 0,.int .i64 0,.int .i64 0,.int .i64 0,.int .i64 0,.slice none 0 0]).cells (G - m):=⟨_,rfl⟩;have hz3:∀ty,(Builtin.append_ #[22,3] ty #[.slice (some ⟨g,0,none⟩) i cap,.int .i64 ((m:Int) - (i:Int))]).run prog w= .ok (.slice (some ⟨B,0,none⟩) m G) (w.drew.alloc (.cells C0 62)):=fun ty=>by
  have hz:=Lib.run_append_grow_zeros (P:=prog) w 22 3 ty 62 i0 _ .i64 .i64 underlying22 underlying3 mC Lz (some ⟨g,0,none⟩) i cap (xs.take (i*9)) hold k aa aa aa aa (by rw[F6];omega) (by rw[F6];exact growslice_fits aa aa);rw[<-hG,Vl,<-hB]at hz;rw[show (m:Int) - (i:Int)=(k:Int) by omega,hz,SN]
 have H0:C0.size=G*9:=a4X
 obtain⟨W0,FT⟩:∃W0,W0=w.drew.alloc (.cells C0 62):=⟨_,rfl⟩;rw[<-FT]at hz3;have SO:W0.heap[B]? =some (.cells C0 62 (0,0)):=by rw[FT,hB];exact jt w.drew _
 have zg:∀b,b < B->W0.heap[b]? =w.heap[b]? :=fun b hb=>a3N
 obtain⟨C1,An⟩:∃C1:Array Value,C1=(aC C0.toList (i*9) ys).toArray:=⟨_,rfl⟩;have uO:C1.size=G*9:=by rw[An,YF,bt aN];simpa using H0
 obtain⟨W1,rR⟩:∃W1,W1=W0.setRow B C1:=⟨_,rfl⟩;have HY:∀ty dc,(Builtin.copy_ #[22,22] ty #[.slice (some ⟨B,i*9,none⟩) (m - i) dc,.slice (some ⟨vb,vo,none⟩) 1 vc]).run prog W0= .ok (goInt (ZP 1 (m - i))) W1:=fun ty dc=>by
  rw[rR,An];exact fh (e:=62) (sz:=9) ys underlying22 mC tD (by rw[tB,show ZP 1 (m - i)=1 from (by simp only[B'];split<;>omega)]) (fun q u hq=>by
   rw[Addr.add_lit];rw[<-LB q u hq];exact Zk (a:=⟨vb,vo+q,none⟩) (zg vb Pv)) Sz SO (by rw[tB,H0];omega) ty
 have wj:W1.heap[B]? =some (.cells C1 62 (0,0)):=by rw[rR];exact setRow_heap _ B _ _ _ _ SO
 have zh:∀b,b < B->W1.heap[b]? =w.heap[b]? :=fun b hb=>by rw[rR,setRow_other _ _ _ _ aa];exact zg b hb
 have rQ:(xs.drop (i*9)).length=(n - i)*9:=by rw[XO,hl];omega
 have HZ:∀ty dc sc,(Builtin.copy_ #[22,22] ty #[.slice (some ⟨B,j*9,none⟩) (m - j) dc,.slice (some ⟨g,i*9,none⟩) (n - i) sc]).run prog W1.drew= .ok (goInt (ZP (n - i) (m - j))) (W1.drew.setRow B (aC C1.toList (j*9) (xs.drop (i*9))).toArray):=fun ty dc sc=>by
  exact fh (e:=62) (sz:=9) (xs.drop (i*9)) underlying22 mC tD (by rw[rQ,show ZP (n - i) (m - j)=n - i from (by simp only[B'];split<;>omega)]) (fun q u hq=>by
   rw[Addr.add_lit,nI (w:=W1.drew) (show W1.heap[g]? =_ from (zh g hgB).trans hh)];rw[Yk]at hq;have:=kY _ u hq;rw[<-this]) (fun u hu=>pZ u (Yd hu)) (w:=W1.drew) wj (by rw[rQ,uO];omega) ty
 have hR:Hid (∀e,e=Ending.returned (.slice (some ⟨B,0,none⟩) m G)->Cn w 62 g 9 n (xs.take (i*9)++ys++xs.drop (i*9)) e (W1.drew.setRow B (aC C1.toList (j*9) (xs.drop (i*9))).toArray)):=by
  intro e he;refine⟨G,aC C1.toList (j*9) (xs.drop (i*9)),by omega,Vm,?_,?_,by rw[he,hB,HX],?_,?_⟩
  ·rw[bt (by rw[rQ];simp;omega)];simpa using uO
  ·rw[An,YZ];have e1:C0.toList.take (i*9)=xs.take (i*9):=a4m
   rw[show (n+1)*9=j*9+(xs.drop (i*9)).length by rw[rQ];omega];unfold aC;rw[Ym aN,XM aN];congr 1;rw[e1,Ym aN,XM aN]
  ·exact a2R
  ·rw[<-hB];exact setRow_heap W1.drew B _ _ _ _ wj
 have co:IntKind.i64.wrap ((i:Int)+1)=(j:Int):=by rw[IntKind.wrap_i64];omega
 have cM:IntKind.i64.wrap ((n:Int)+1)=(m:Int):=by rw[IntKind.wrap_i64];omega
 have qP:IntKind.i64.wrap ((m:Int) - (i:Int))=(m:Int) - (i:Int):=by rw[IntKind.wrap_i64];omega
 have Vk:¬((i:Int)=(n:Int)):=aa;have jQ:i<=n:=aa;have jT:¬(G=j):=aa;have Tt:¬(G=i):=aa;have hb4:j<=m:=aa;have hb5:i<=m:=aa;have hb6:i<=cap:=aa;have hb7:(cap:Int) < (m:Int):=aa;have hb8:¬(cap=i):=aa;have hb9:j<=G:=aa;have a1m:i<=G:=aa;clear hold H0 uO rQ tB hl hs ht hh SO wj zg zh kY Vl Lz tD F6 hG FT rR SN An hk hj HX hB jZ;go_enter func200,ntmps200
 go_wp2_with (at_builtin;first|refine qK _ rfl _ _ 22 3 rfl _ _ rfl rfl (hz3 _) ?_|refine kB _ rfl _ _ 22 22 rfl _ _ rfl rfl (HY _ _) ?_)
 go_region_law_o (refine mK rfl _ _ 22 22 rfl _ _ (by simp[Act.eval,Act.put]) (by simp[Act.eval,Act.put]) (HZ _ _ _) ?_)
 go_wp2_with fail
 go_ret
 exact hR.out _ rfl
theorem EE [Flo](l:List Pol)(x:Pol)(i g:Nat)(hi:i<=l.length)(hl:l.length<=1000000):
 MSpec prog 200 [.own 0 g,.d (.v (.int .i64 i)),.d (.sl 9 [al x])] [.row 62 9 g (ab (l.map al))] (.own 0 (g+1)) [.row 62 9 (g+1) (ab ((l.take i++x::l.drop i).map al))]:=by
 rcases XL i l.length with hlt|hge
 ·have h1:=NF (P:=prog) (f:=200) (E:=62) (sz:=9) (g:=g) (i:=i) (rows:=l.map al) (x:=al x) (cS func200 aK rfl) aa (by simpa using hlt) (by
   simp only[Xs];intro w gb cap vb vo vc cur xs ys q1 q2 q3 q4 q5 q6 q7 q8 q9 q10 q11;obtain⟨u,hu⟩:∃u,ys[0]? =some u:=⟨_,Xj aa⟩;obtain⟨sA,BC,L7⟩:=vq (q11 0 u hu);unfold maxLen at q2;by_cases jZ:l.length+1<=cap
   ·refine(zM gb cap l.length i vb vo vc cur xs ys w q1 aa q4 q5 q6 q7 hlt jZ q8 q9 q10 q11 sA BC L7).mono ?_;rintro e w' ⟨rfl,rfl⟩;obtain⟨t1,t2⟩:=ED (sz:=9) (n:=l.length) (i:=i) (cur:=cur.toList) (xs:=xs) (ys:=ys) aa hlt aN q5 q8 q6;have Tu:(w.drew.setRow gb (aC cur.toList ((i+1)*9) (xs.drop (i*9))).toArray).heap[gb]? =some (.cells (aC cur.toList ((i+1)*9) (xs.drop (i*9))).toArray 62 (0,0)):=setRow_heap _ gb _ _ _ _ q1;refine⟨_,rfl,.row gb (l.length+1) cap _ _ aa (setRow_heap _ gb _ _ _ _ Tu) jZ q2 (by rw[YF,t2];simpa using q4) (by rw[<-t1,Xo,t2];simp;omega) (by rw[YZ];exact t1),⟨rfl,rfl,rfl,by simp[ZH],fun b hb bG=>?_⟩,.inl (dr aa)⟩;have cV:b≠gb:=fun e=>bG (by rw[e]);rw[setRow_other _ _ _ _ cV,setRow_other _ _ _ _ cV];rfl
   ·refine(zN gb cap l.length i vb vo vc cur xs ys w q1 aa q3 q4 q5 q6 q7 hlt jZ q8 q9 q11).mono ?_;rintro e w' ⟨G,R,h1,h2,h3,h4,rfl,h6,h7⟩;exact⟨_,rfl,.row w.heap.size (l.length+1) G R.toArray _ aa h7 h1 h2 (by simpa using h3) (by rw[<-h4,Xo,h3];omega) (by simpa using h4),h6,.inr fun b hb=>by rw[dr aa]at hb;cases hb;exact XA _⟩)
  rw[Xn,ZK,Xl,List.map_drop];exact h1
 ·obtain rfl:i=l.length:=aa;rw[Xq,Y6];by_cases h0:l=[]
  ·subst h0;refine mj func200 ntmps200 results200 ?_;repeat' (first|(with_reducible refine And.intro ?_ ?_)|(with_reducible refine og (fun _=>?_) (fun _=>?_))|(with_reducible refine ef (fun _=>?_) (fun _=>?_))|(with_reducible refine jA aK)|simp -dsimp only[go_sem,seval, *,al,ab,YI]|((with_reducible refine jB ?_);simp -dsimp only[go_sem,seval,al,ab,YI];first|refine ei L8 mR ?_|refine eh gR (by repeat(first|exact aO.refl _|exact aO.nil _|(refine aO.tup ?_)|(refine aO.agg ?_ rfl)|exact trivial|(refine And.intro ?_ ?_))) mR ?_)|omega|exact decide_eq_true aa|exact aO.refl _)
   all_goals exact aW rfl rfl
  ·have bG:¬ab (l.map al)=[]:=by simpa[ab]using h0
   refine mj func200 ntmps200 results200 ?_;refine fl ?_ ?_ ?_ ?_ ?_ ?_ ?_ ?_<;>first|(with_reducible exact True.intro)|intros
   all_goals exact aW rfl (by simp[al,ab])
end
theorem a2r {p:Prop}(h:p:=by
 refine(aJ 0 ak).trans ((ax ak 1 24 [.d (.v (.int .i64 b.tick)),.d (.v (.slice none 0 0))] 1 62 9 rfl rfl rfl).trans ?_);exact wf):p:=h
theorem a2Q {p:Prop}(h:p:=by
 have:=hm.out;have:=bV.out;have:=tK.out;omega):p:=h
theorem a3t {p:Prop}(h:p:=by
 intro _ C;refine aq ?_<;>intros;(try rw[Xq])
 exact aW rfl rfl):p:=h
theorem Rl [Flo](b:Bok)(h8:b.pools.length<=8)(eP:∀p∈b.pools,p.leases.length<=32):
 MSpec prog 196 [.d (.agg (bj b))] [] (.ptr 1 0) [.gone,.box 24 [.d (.v (.int .i64 b.tick)),.own 2 b.pools.length],.row 62 9 b.pools.length (ab (b.pools.map al))]:=by
 refine mj func196 ntmps196 results196 ?_;refine aq ?_<;>intros;refine bq ag am b.pools (fun _=>True) (fun k=>[(13,.d (.v (.int .i64 k))),(12,.d (.v (.int .i64 b.pools.length))),(11,.d (.sl 9 (b.pools.map al))),(3,.ptr 1 0),(2,.d (.v (.pointer none)))])
  (fun k=>[.gone,.box 24 [.d (.v (.int .i64 b.tick)),.own 2 k],.row 62 9 k (ab ((b.pools.take k).map al))]) trivial ?_ ?_ ?_
 ·exact a2r
 ·intro k p hp hk _ C hC;have dF:(k:Int) < (b.pools.length:Int):=aa;have cX:=wi k aa;have gz:=eP p (Xk hp);have jQ:k+1<=100:=aa;have hlt:(Ye k b.pools).length=k:=by rw[Xo];omega
  have z1z:=Ln.mk (ls:=[]) (ij bc p.leases aa);refine aq ?_<;>intros;refine hC _ _ trivial ((av 4 1 68 5 (p.leases.map bc) rfl).trans ?_);simp only[eM,fz,ee,dX,eF,d7,aD,aZ,bg,Xl,Xp,Xz,Xx,reduceIte,and_true,true_and,and_self,and_false,false_and,Xw,XG,reduceCtorEq];exact wf (hh:=(by rw[aj hp,Xn,Xl,Xp,<-aI];rfl))
 ·exact a3t
def aA (p:Pol)(v:PV):List PV:=[.d (.v (.int .i64 p.id)),.d (.v (.int .i64 p.up)),.d (.v (.int .i64 p.root.at_)),.d (.v (.int .i64 p.root.len)),.d (.v (.int .i64 p.rule.min)),.d (.v (.int .i64 p.rule.max)),.d (.v (.int .i64 p.rule.usual)),.d (.v (.int .i64 p.rule.cool)),v]
def fZ (pre:List Pol)(r:List PV)(post:List Pol):List (List PV):=ab (pre.map al)++r::ab (post.map al)
@[go_sem] theorem x6 (pre:List Pol)(r:List PV)(post:List Pol):(fZ pre r post).length=pre.length+1+post.length:=by
 simp[fZ,aH];omega
theorem kN (n:Nat):∀(l m:List (List PV)),cB n (l++m)=(cB n l&&cB n m)
 |[],m=>rfl
 |r::l,m=>by simp only[X5,cB,kN n l m,_b]
theorem iZ (n:Nat)(pre:List Pol)(r:List PV)(post:List Pol):cB n (fZ pre r post)=aw n r:=by
 simp only[fZ,kN,cB,aF,Yp,Yx]
theorem bz {A:Prop}(h:A:=by first|rfl|simp only[aL,eD,aQ,aw,cB,ay,bu,aF,iZ,aA,XC,XX,Xz,ZV,decide_true,Yq,Yx]):A:=h
theorem IE (k g:Nat)(d:D)(pre:List Pol)(r:List PV)(post:List Pol):d7 k g d (fZ pre r post)=fZ pre (ee k g d r) post:=by
 simp only[fZ,aD,d7,aZ]
theorem KD (pre:List Pol)(r:List PV)(post:List Pol)(q:Pol):fZ pre r post++[(al q).map .d]=fZ pre r (post++[q]):=by
 simp[fZ,ab]
theorem Ul [Flo](b:Bok)(pre post:List Pol)(p:Pol)(hb:b.pools=pre++p::post)(h8:b.pools.length<=8)(eP:∀p∈b.pools,p.leases.length<=32):
 MSpec prog 196 [.d (.agg (bj b))] [] (.ptr 1 0) [.gone,.box 24 [.d (.v (.int .i64 b.tick)),.own 2 b.pools.length],.row 62 9 b.pools.length (fZ pre (aA p (.own 4 1)) post),.gone,.row 68 5 1 (ab (p.leases.map bc))]:=by
 have bP:b.pools.length=pre.length+1+post.length:=by rw[hb];simp;omega
 have hL:=Xi hb;have bV:=Xi bP;clear hb bP;refine mj func196 ntmps196 results196 ?_;refine aq ?_<;>intros;refine bL ag am (fun m e h=>(∃k,k<=pre.length/\m=b.pools.length - k/\e=[(13,.d (.v (.int .i64 k))),(12,.d (.v (.int .i64 b.pools.length))),(11,.d (.sl 9 (b.pools.map al))),(3,.ptr 1 0),(2,.d (.v (.pointer none)))]/\
  h=[.gone,.box 24 [.d (.v (.int .i64 b.tick)),.own 2 k],.row 62 9 k (ab ((pre.take k).map al))])\/
  ∃k j,k=pre.length+1+j/\j<=post.length/\m=b.pools.length - k/\e=[(13,.d (.v (.int .i64 k))),(12,.d (.v (.int .i64 b.pools.length))),(11,.d (.sl 9 (b.pools.map al))),(3,.ptr 1 0),(2,.d (.v (.pointer none)))]/\
   h=[.gone,.box 24 [.d (.v (.int .i64 b.tick)),.own 2 k],.row 62 9 k (fZ pre (aA p (.own 4 1)) (post.take j)),.gone,.row 68 5 1 (ab (p.leases.map bc))]) _ _ _ (.inl ⟨0,XE _,rfl,rfl,rfl⟩) ?_ ?_
 ·exact a2r
 ·rintro m e h (⟨k,hk,hm,rfl,rfl⟩|⟨k,j,Db,hj,hm,rfl,rfl⟩) C hC
  ·have dF:(k:Int) < (b.pools.length:Int):=by have:=bV.out;omega
   have cX:=wi k aa;have jQ:k+1<=100:=by have:=bV.out;omega
   have hlt:(Ye k pre).length=k:=by rw[Xo];omega
   have hm:=Xi hm;by_cases mo:k < pre.length
   ·obtain⟨q,hq⟩:∃q,pre[k]? =some q:=⟨_,Xj mo⟩;have qz:b.pools[k]? =some q:=by rw[hL.out,XW mo];exact hq
    have gz:=eP q (Xk qz);have hq:=Xi hq;have z1z:=Ln.mk (ls:=[]) (ij bc q.leases aa);refine aq ?_<;>intros;refine hC _ _ _ _ _ ?_ (.inl ⟨k+1,mo,rfl,rfl,rfl⟩) ((av 4 1 68 5 (q.leases.map bc) rfl).trans ?_)
    ·have:=hm.out;have:=bV.out;omega
    simp only[eM,fz,ee,dX,eF,d7,aD,aZ,bg,Xl,Xp,Xz,Xx,reduceIte,and_true,true_and,and_self,and_false,false_and,Xw,XG,reduceCtorEq];exact wf (hh:=(by rw[aj hq.out,Xn,Xl,Xp,<-aI];rfl))
   ·obtain rfl:k=pre.length:=aa;have qz:b.pools[pre.length]? =some p:=by rw[hL.out,XI (XA _),YE];rfl
    have gz:=eP p (Xk qz);have z1z:=Ln.mk (ls:=[]) (ij bc p.leases aa);refine aq ?_<;>intros;refine hC _ _ _ _ _ ?_ (.inr ⟨pre.length+1,0,rfl,XE _,rfl,rfl,rfl⟩) ((aJ 3 ak).trans ?_)
    ·have:=hm.out;have:=bV.out;omega
    exact wf (hb:=bz) (hbh:=bz)
  ·have hm:=Xi hm;have tK:=Xi Db;have jQ:pre.length+1+j+1<=100:=by have:=bV.out;omega
   have hlt:(Ye j post).length=j:=by rw[Xo];omega
   have wF:k<=b.pools.length:=by have:=bV.out;omega
   by_cases zq:j < post.length
   ·obtain⟨q,hq⟩:∃q,post[j]? =some q:=⟨_,Xj zq⟩;have qz:b.pools[k]? =some q:=by
     rw[hL.out,XI aa,show k - pre.length=j+1 by omega,Yw];exact hq
    have gz:=eP q (Xk qz);have dF:(k:Int) < (b.pools.length:Int):=by have:=bV.out;omega
    have cX:=wi k aa;have hq:=Xi hq;clear Db;have z1z:=Ln.mk (ls:=[]) (ij bc q.leases aa);refine aq ?_<;>intros;refine hC _ _ _ _ _ ?_ (.inr ⟨k+1,j+1,by have:=tK.out;omega,zq,rfl,rfl,rfl⟩) ((av 6 1 68 5 (q.leases.map bc) rfl).trans ?_)
    ·exact a2Q
    simp only[eM,fz,ee,dX,eF,d7,aD,aZ,bg,Xl,Xp,Xz,Xx,reduceIte,and_true,true_and,and_self,and_false,false_and,Xw,XG,reduceCtorEq,IE,aA];exact wf (hh:=(by rw[aj hq.out,<-KD];rfl)) (hb:=bz) (hbh:=bz)
   ·obtain rfl:j=post.length:=aa;obtain rfl:k=b.pools.length:=by have:=bV.out;omega
    clear Db;refine aq ?_<;>intros;(try rw[Xq])
    exact aW rfl rfl
theorem a2p {p:Prop}(h:p:=by
 obtain⟨hi,rfl⟩:=Xm.1 hq;have h1:jV key (key l[i]) l=i:=rf (G' hi) (fun k hk Pq=>XH.1 hs k i hk hi Pq) (fun k hk Pq=>by
  rcases XL i k with h|h
  ·have:=XH.1 hs i k hi hk h;omega
  ·obtain rfl:k=i:=aa;exact ZJ _)
 refine⟨h1,?_⟩;unfold ss;rw[h1,hq];simp):p:=h
@[go_sem] theorem aP (ρ:Nat->Nat)(pre:List Pol)(r:List PV)(post:List Pol):kE ρ (fZ pre r post)=fZ pre (jx ρ r) post:=by
 have app:∀(l m:List (List PV)),kE ρ (l++m)=kE ρ l++kE ρ m:=by
  intro l m;rw[eY,eY,eY,Xn]
 simp only[fZ,app,kE,wV]
structure BookOK (b:Bok):Prop where
 n8:b.pools.length<=8
 l32:∀p∈b.pools,p.leases.length<=32
 rise:ox b.pools
 tick:0<=b.tick/\b.tick<=1073741824
 mem:∀p∈b.pools,dZ p.id=true/\iP p.root (dC p)=0/\fY p.rule p.root.len=true
 second:dG b b.pools []=true
theorem db {b:Bok}(h:bn b=0):BookOK b:=by
 unfold bn at h;split at h
 ·cases h
 ·rename_i h8;split at h
  ·cases h
  ·rename_i ht;split at h
   ·rename_i hf;rw[Xv]at hf;have hm:=mJ _ _ hf.1;refine⟨by omega,fun p hp=>?_,(lw _ _ hf.1).1,by omega,hm,hf.2⟩;have:=(hm p hp).2.1;unfold iP at this;split at this
    ·cases this
    ·rename_i h;simpa[dC]using h
   ·cases h
theorem nJ [Flo](b:Bok)(hz:∀p∈b.pools,p.leases.length<=3518437208882)(h:bn b≠0):ai prog 115 [.agg (bj b)] (.tup [.v (.pointer none),.v (.int .i64 (bn b))]):=by
 have hc:=nG b hz;have h1:(bn b !=0)=true:=by simpa using h
 refine pj func115 ntmps115 results115 ?_;exact aY
theorem kh [Flo](b:Bok)(hz:∀p∈b.pools,p.leases.length<=3518437208882)(h:bn b=0):
 MSpec prog 115 [.d (.agg (bj b))] [] (.tup [.ptr 2 0,.d (.v (.int .i64 0))]) [.gone,.gone,.box 24 [.d (.v (.int .i64 b.tick)),.own 3 b.pools.length],.row 62 9 b.pools.length (ab (b.pools.map al))]:=by
 have hc:=nG b hz;have hb:=db h;have ho:=Rl b hb.n8 hb.l32;rw[h]at hc;replace h:=Xi h;refine mj func115 ntmps115 results115 ?_;have z1z:=Ln.mk (ls:=[]) (ho);refine aq ?_<;>intros;exact(aJ 0 ak).trans (aW rfl rfl)
theorem sN [Flo](b:Bok)(pre post:List Pol)(p:Pol)(hp:b.pools=pre++p::post)(hz:∀p∈b.pools,p.leases.length<=3518437208882)(h:bn b=0):
 MSpec prog 115 [.d (.agg (bj b))] [] (.tup [.ptr 2 0,.d (.v (.int .i64 0))]) [.gone,.gone,.box 24 [.d (.v (.int .i64 b.tick)),.own 3 b.pools.length],.row 62 9 b.pools.length (fZ pre (aA p (.own 5 1)) post),.gone,.row 68 5 1 (ab (p.leases.map bc))]:=by
 have hc:=nG b hz;have hb:=db h;have ho:=Ul b pre post p hp hb.n8 hb.l32;rw[h]at hc;replace h:=Xi h;replace hp:=Xi hp;refine mj func115 ntmps115 results115 ?_;have z1z:=@aA.eq_1;have z2z:=Ln.mk (ls:=[]) (ho);refine aq ?_<;>intros;exact(aJ 0 ak).trans (aW rfl rfl)
theorem Wp {α:Type}{key:α->Int}{l:List α}{i:Nat}{q:α}(hs:l.Pairwise fun a b=>key a < key b)(hq:l[i]? =some q):jV key (key q) l=i/\ss key (key q) l=true:=a2p
theorem Cp [Flo](b:Bok)(i:Nat)(q:Pol)(g:Nat)(rows:List (List PV))(hs:List Chunk)(c0:PV)(hq:b.pools[i]? =some q)(hr:ox b.pools)(h8:b.pools.length<=8)(By:rows.length=b.pools.length)
 (hv:dk (br (az (.box 24 [c0,.own 1 g]:: .row 62 9 g rows::hs)) 5) rows=some (b.pools.map al)) (uJ:cB (hs.length+2) rows=true) (hbh:aL (hs.length+2) hs=true) (LG:ay (hs.length+2) c0=true):
 MSpec prog 116 [.ptr 0 0,.d (.v (.int .i64 q.id))] (.box 24 [c0,.own 1 g]:: .row 62 9 g rows::hs) (.tup [.rp 1 g 9 i 0,.d (.v (.bool true))]) (.box 24 [c0,.own 1 g]:: .row 62 9 g rows::hs):=by
 have Da:=ut l6 (fun p=>p.id) b.pools q.id 198 [] aa hr (fun p _=>G1 p q.id);obtain⟨e1,e2⟩:=Wp (key:=fun p:Pol=>p.id) hr hq;rw[e1,e2]at Da;have hi:i < rows.length:=by rw[By];exact(Xm.1 hq).1
 have SP:(0:Int)<=(i:Int):=aa;replace hq:=Xi hq;replace By:=Xi By;replace e1:=Xi e1;replace e2:=Xi e2;refine B9 ag am func116 rfl ntmps116 results116 aK (XA _) (by simp[aw,ay]) (by simp[aL,aQ,aw,ay,uJ,hbh,LG]) ?_;refine aq ?_<;>intros;exact aW rfl rfl
def cy (p:Pol)(size:Int):Pfx × Int:=
 if size < p.rule.min\/size>p.rule.max then (Pfx.zero,7)else
 if (mv p.root (dC p) size).2.1=false\/p.leases.length=32 then (Pfx.zero,8)else ((mv p.root (dC p) size).1,0)
theorem Td [Flo](p:Pol)(size:Int)(hl:p.leases.length<=32):ai prog 120 [.ept (al p),.v (.int .i64 size)] (.tup [.agg (aS (cy p size).1),.v (.int .i64 (cy p size).2)]):=by
 have ht:=ID p aa;have hf:=Rh p.root (dC p) size;refine pj func120 ntmps120 results120 ?_;refine fl ?_ ?_ ?_ ?_ ?_ ?_ ?_ ?_<;>first|(with_reducible exact True.intro)|intros
 all_goals clear ht hf
 all_goals first
  |(rw[show cy p size=(Pfx.zero,7) from by unfold cy;grind];exact aO.refl _)
  |(rw[show cy p size=(Pfx.zero,8) from by unfold cy;grind];exact aO.refl _)
  |(rw[show cy p size=((mv p.root (dC p) size).1,0) from by unfold cy;grind];exact aO.refl _)
@[go_sem] theorem fi (pre:List Pol)(r:List PV)(post:List Pol):(fZ pre r post)[pre.length]? =some r:=by
 unfold fZ;rw[XI (by simp[aH])];simp[aH]
@[go_sem] theorem Wq (pre:List Pol)(r r':List PV)(post:List Pol):(fZ pre r post).set pre.length r'=fZ pre r' post:=by
 unfold fZ;rw[Yu _ _ (by simp[aH])];simp[aH]
def iQ (l:Lse)(ls:List Lse):List Lse:=ls.take (jV (fun x=>x.at_.at_) l.at_.at_ ls)++l::ls.drop (jV (fun x=>x.at_.at_) l.at_.at_ ls)
theorem qg {α:Type}(key:α->Int)(t:Int)(l:List α):jV key t l<=l.length:=List.findIdx_le_length
theorem Um [Flo](x:Lse)(t:Int):ai prog 203 [.agg (bc x),.v (.int .i64 t)] (.v (.int .i64 (eN x.at_.at_ t))):=by
 have hc:=nq x.at_.at_ t;refine pj func203 ntmps203 results203 ?_;exact aY
theorem KE (pre post:List Pol)(p:Pol)(ls:List Lse):fZ pre (aA p (.d (.sl 5 (ls.map bc)))) post=ab ((pre++{p with leases:=ls}::post).map al):=by
 simp only[fZ,ab,Xn,Xl];rfl
theorem rA [Flo]{P:Program}{m:Nat}(pre post:List Pol)(p:Pol)(g g2:Nat)(ls:List Lse):cG P 1 m [(0,.d (.tup []))] [.row 62 9 g (fZ pre (aA p (.own 1 g2)) post),.row 68 5 g2 (ab (ls.map bc))] [(0,.d (.tup []))] [.row 62 9 g (ab ((pre++{p with leases:=ls}::post).map al)),.gone]:=by
 refine(av 1 g2 68 5 (ls.map bc) rfl).trans ?_;simp only[eM,fz,ee,dX,eF,d7,aD,aZ,bg,Xl,Xp,Xz,Xx,reduceIte,and_true,true_and,and_self,and_false,false_and,Xw,XG,reduceCtorEq,IE,aA];rw[<-KE];exact aW rfl rfl
theorem Te [Flo](pre post:List Pol)(p:Pol)(l:Lse)(g g2:Nat)(hl:p.leases.length<=32)(hs:p.leases.Pairwise fun a b=>a.at_.at_ < b.at_.at_):
 MSpec prog 121 [.rp 0 g 9 pre.length 0,.d (.agg (bc l))] [.row 62 9 g (fZ pre (aA p (.own 1 g2)) post),.row 68 5 g2 (ab (p.leases.map bc))] (.d (.tup [])) [.row 62 9 g (ab ((pre++{p with leases:=iQ l p.leases}::post).map al)),.gone]:=by
 have Da:=GN lZ (fun x=>x.at_.at_) p.leases l.at_.at_ 203 [] aa hs (fun x _=>Um x l.at_.at_);have hle:=qg (fun x:Lse=>x.at_.at_) l.at_.at_ p.leases;have fQ:=Co p.leases l (jV (fun x:Lse=>x.at_.at_) l.at_.at_ p.leases) g2 hle aa;refine B9 ag am func121 rfl ntmps121 results121 aK (XA _) (by simp[aw,ay]) (by simp[aL,aQ,iZ,aw,ay,aA,aF]) ?_;have z1z:=@aA.eq_1;have z2z:=Ln.mk (ls:=[1]) (fQ);refine aq ?_<;>intros;refine cG.trans ?_ (rA pre post p g (g2+1) (iQ l p.leases));exact wf (hb:=bz) (hbh:=bz)
def kO (p:Pol)(i:Nat)(tick:Int):List Lse:=if p.rule.cool=0 then p.leases.eraseIdx i else match p.leases[i]? with|some l=>p.leases.set i ⟨l.at_,3,0,tick+p.rule.cool⟩|none=>p.leases
theorem NG [Flo](pre post:List Pol)(p:Pol)(i g g2:Nat)(tick:Int)(hi:i < p.leases.length)(hl:p.leases.length<=32)(vK:0<=p.rule.cool/\p.rule.cool<=1024)(ht:0<=tick/\tick<=1073741824):
 MSpec prog 123 [.rp 0 g 9 pre.length 0,.d (.v (.int .i64 i)),.d (.v (.int .i64 tick))] [.row 62 9 g (fZ pre (aA p (.own 1 g2)) post),.row 68 5 g2 (ab (p.leases.map bc))] (.d (.tup [])) [.row 62 9 g (ab ((pre++{p with leases:=kO p i tick}::post).map al)),.gone]:=by
 refine B9 ag am func123 rfl ntmps123 results123 aK (XA _) (by simp[aw,ay]) (by simp[aL,aQ,iZ,aw,ay,aA,aF]) ?_;by_cases hc:p.rule.cool=0
 ·have gB:kO p i tick=p.leases.eraseIdx i:=by unfold kO;rw[ah hc]
  have cX:=wi i aa;have hd:=Cm (enc:=bc) p.leases i (i+1) g2 hi rfl;have Jn:(p.rule.cool==0)=true:=by simpa using hc
  rw[gB];replace gB:=Xi gB;replace hc:=Xi hc;have z1z:=@aA.eq_1;have z2z:=Ln.mk (ls:=[1]) (hd);refine aq ?_<;>intros;exact rA pre post p g (g2+1) (p.leases.eraseIdx i)
 ·have cX:IntKind.i64.wrap (tick+p.rule.cool)=tick+p.rule.cool:=by rw[IntKind.wrap_i64];omega
  have Jn:(p.rule.cool==0)=false:=by simpa using hc
  obtain⟨l,Jf⟩:∃l,p.leases[i]? =some l:=⟨_,Xj hi⟩;have iU:=bN bc p.leases i ⟨l.at_,3,0,tick+p.rule.cool⟩;have gB:kO p i tick=p.leases.set i ⟨l.at_,3,0,tick+p.rule.cool⟩:=by unfold kO;rw[af hc,Jf]
  simp only[bc,Xl,Xp]at iU;rw[gB];replace gB:=Xi gB;have z1z:=@aA.eq_1;refine aq ?_<;>intros;exact rA pre post p g g2 (p.leases.set i ⟨l.at_,3,0,tick+p.rule.cool⟩)
def l7 (p:Pol)(ps:List Pol):List Pol:=ps.take (jV (fun x=>x.id) p.id ps)++p::ps.drop (jV (fun x=>x.id) p.id ps)
theorem Tf [Flo](ps:List Pol)(p:Pol)(g:Nat)(tick:D)(h8:ps.length<=8)(hr:ox ps)(ht:tick.one=true):
 MSpec prog 119 [.ptr 0 0,.d (.agg (al p))] [.box 24 [.d tick,.own 1 g],.row 62 9 g (ab (ps.map al))] (.d (.tup [])) [.box 24 [.d tick,.own 1 (g+1)],.row 62 9 (g+1) (ab ((l7 p ps).map al))]:=by
 have Da:=ut l6 (fun x=>x.id) ps p.id 198 [] aa hr (fun x _=>G1 x p.id);have hle:=qg (fun x:Pol=>x.id) p.id ps;have fQ:=EE ps p (jV (fun x:Pol=>x.id) p.id ps) g hle aa;refine B9 ag am func119 rfl ntmps119 results119 aK (XA _) (by simp[aw,ay]) (by simp[aL,aQ,aw,ay,aF]) ?_;have z1z:=Ln.mk (ls:=[1]) (fQ);refine aq ?_<;>intros;exact wf (hb:=bz) (hbh:=bz)
def fj (s:Ste):Int:=if bn s.book≠0 then bn s.book else if cJ s.net≠0 then cJ s.net else if (lU (vZ s.book) s.net.vpcs&&decide (pA s.net.vpcs=(vZ s.book).countP fun kv=>ig s.net.vpcs kv.2))=true then 0 else 1
theorem x7 [Flo]{α:Type}{enc:α->List D}(cU:∀x,(enc x).length=3)(p:α->Bool)(l:List α)(g:Nat)(caps:List D)(hl:l.length<=1000000000)(hc:∀x∈l,ai prog g (.agg (enc x)::caps) (.v (.bool (p x)))):
 ai prog 100 [.sl 3 (l.map enc),.clo g caps] (.v (.int .i64 (cq p l))):=by
 refine pj func100 ntmps100 results100 ?_;refine aq ?_<;>intros;refine bL ag am (fun m e h=>∃k:Nat,k<=l.length/\(∀x∈l.take k,p x=false)/\m=l.length - k/\e=[(8,.d (.v (.int .i64 k))),(7,.d (.v (.int .i64 l.length))),(4,.d (.v (.int .i64 0))),(1,.d (.clo g caps)),(0,.d (.sl 3 (l.map enc)))]/\h=[]) _ _ _ ⟨0,XE _,by simp,rfl,rfl,rfl⟩ ?_ ?_
 ·exact a2e
 ·exact gt
theorem x9 [Flo]{α:Type}{enc:α->List D}(cU:∀x,(enc x).length=3)(p:α->Bool)(l:List α)(g:Nat)(caps:List D)(hl:l.length<=1000000000)(hc:∀x∈l,ai prog g (.agg (enc x)::caps) (.v (.bool (p x)))):
 ai prog 35 [.sl 3 (l.map enc),.clo g caps] (.v (.bool (l.any p))):=by
 have hi:=x7 cU p l g caps hl hc;have jO:=gp p l;refine pj func35 ntmps35 results35 ?_;exact aY;all_goals exact aO.refl _
theorem KH [Flo](v:Vpc)(o:Int):ai prog 36 [.agg (au v),.ept [.v (.int .i64 o)]] (.v (.bool (v.id==o))):=by
 refine pj func36 ntmps36 results36 ?_;exact aY
theorem ya [Flo](s:Ste)(hz:∀p∈s.book.pools,p.leases.length<=3518437208882):ai prog 11 [.agg (bJ s)] (.v (.int .i64 (fj s))):=by
 have hb:=nG s.book hz;have hn:=xM s.net;obtain⟨R,hR⟩:∃R,R=fj s:=⟨_,rfl⟩;rw[<-hR];replace hR:=Xi hR;by_cases h1:bn s.book=0
 ·rw[h1]at hb;by_cases h2:cJ s.net=0
  ·rw[h2]at hn;have tN:R=if (lU (vZ s.book) s.net.vpcs&&decide (pA s.net.vpcs=(vZ s.book).countP fun kv=>ig s.net.vpcs kv.2))=true then 0 else 1:=by
    rw[hR.out];unfold fj;rw[af (by simpa using h1),af (by simpa using h2)]
   have tL:=db h1;have hu:=Ln.mk (ls:=[]) (Ix s.book (by have:=tL.n8;omega) (fun p hp=>by have:=tL.l32 p hp;omega));have hEl:=Q9 tL.l32;have hE8:=tL.n8;have hEn:(vZ s.book).length<=256:=Yj hEl (Yj (Yt 32 hE8) zr);have bQ:=gw.1 h2;have F8:=bQ.n6;have lc:∀v∈s.net.vpcs,v.ranges.length<=4:=fun v hv=>(be (bQ.vp v hv)).n4;have SE:∀k,pA (s.net.vpcs.take k)<=24:=fun k=>Yj (QW fun v hv=>lc v (Yf hv)) (by rw[Xo];omega);clear tL hEl hE8 bQ;generalize vZ s.book=E at*;replace tN:=Xi tN;replace lc:=Xi lc;replace SE:=Xi SE;clear h1 h2 hR;have gB:=Xi (⟨F8,hEn⟩:s.net.vpcs.length<=6/\E.length<=256);clear hEn;refine pj func11 ntmps11 results11 ?_;refine aq ?_;refine bq ag am s.net.vpcs (fun k=>lU E (s.net.vpcs.take k)=true) (fun k=>[(32,.d (.v (.int .i64 k))),(31,.d (.v (.int .i64 s.net.vpcs.length))),(30,.d (.sl 3 (s.net.vpcs.map au))),(6,.d (.v (.int .i64 (pA (s.net.vpcs.take k):Nat)))),(5,.mref 2),(1,.ptr 0 0)])
    (fun _=>[.box 30 ((bJ s).map .d),.gone,.mp 3 true E]) rfl wf ?_ ?_
   ·intro k v hv hk hI C hC;have dF:(k:Int) < (s.net.vpcs.length:Int):=aa;have cX:=wi k aa;have oZ:=Xi (Kr hv);have bo:=Xi (SE.out k);have Vn:=Xi (lc.out v (Xk hv));have H2:=Xi hv;have hIx:=Xi hI;clear hI;generalize hNk:pA (s.net.vpcs.take k)=Nk at*;clear hNk;refine aq ?_;refine bq ag am v.ranges (fun j=>(v.ranges.take j).all (Cg E v.id)=true) (fun j=>[(39,.d (.v (.int .i64 j))),(38,.d (.v (.int .i64 v.ranges.length))),(37,.d (.sl 3 (v.ranges.map bp))),(8,.ptr 3 0),(6,.d (.v (.int .i64 ((Nk+j:Nat):Int)))),(32,.d (.v (.int .i64 k))),(31,.d (.v (.int .i64 s.net.vpcs.length))),(30,.d (.sl 3 (s.net.vpcs.map au))),(5,.mref 2),(1,.ptr 0 0)])
     (fun _=>[.box 30 ((bJ s).map .d),.gone,.mp 3 true E,.box 55 ((au v).map .d)]) rfl wf ?_ ?_
    ·intro j r hr hj hJ C2 jU;have lh:(j:Int) < (v.ranges.length:Int):=aa;have mW:IntKind.i64.wrap ((j:Int)+1)=((j+1:Nat):Int):=by have:=Vn.out;rw[IntKind.wrap_i64];omega
     have hwc:IntKind.i64.wrap (((Nk+j:Nat):Int)+1)=((Nk+(j+1):Nat):Int):=by have:=bo.out;have:=Vn.out;rw[IntKind.wrap_i64];omega
     have hrx:=Xi hr;have hJx:=Xi hJ;clear hJ;by_cases hq:Cg E v.id r=true
     ·have e1:((lB E [r.at_.at_,r.at_.len,r.pool]).getD 0 !=v.id)=false:=by unfold Cg at hq;simpa using hq
      have qz:=Xi hq;clear hq;refine aq ?_;exact jU _ _ (by rw[aj hrx.out,ZR,hJx.out];simpa using qz.out) wf
     ·have e1:((lB E [r.at_.at_,r.at_.len,r.pool]).getD 0 !=v.id)=true:=by unfold Cg at hq;simpa using hq
      have qw:R=1:=by
       rw[tN.out,af];intro h;rw[Xv]at h;have h3:=XD.1 (XD.1 h.1 v (Xk H2.out)) r (Xk hrx.out);exact hq h3
      rw[qw];replace hq:=Xi hq;exact aY
    ·intro hJ C2;rw[Xq]at hJ;replace hJ:=Xi hJ;refine aq ?_;exact hC _ _ (by unfold lU;rw[aj H2.out,ZR];have:=hIx.out;unfold lU at this;rw[this];simpa using hJ.out) (wf (hh:=by rfl) (he:=by rw[oZ.out];repeat' (first|exact trivial|(refine⟨rfl,?_⟩))))
   ·intro hI C;rw[Xq]at hI ⊢;have a1n:=Xi (by have:=SE.out s.net.vpcs.length;rw[Xq]at this;exact this:pA s.net.vpcs<=24);have aR:R=if pA s.net.vpcs=E.countP fun kv=>ig s.net.vpcs kv.2 then 0 else 1:=by
     rw[tN.out,hI,Yp];simp only[decide_eq_true_eq]
    replace aR:=Xi aR;clear hI;generalize pA s.net.vpcs=Nn at*;refine aq ?_;refine S7 (fun m e h=>∃(seen:List Nat) (c:Int),seen.Nodup/\(∀i∈seen,i < E.length)/\m=Ew E.length seen/\c=(Nn:Int) - (seen.countP (lV E (ig s.net.vpcs)):Nat)/\seen.length<=E.length/\e=[(58,.ptr 3 0),(6,.d (.v (.int .i64 c))),(1,.ptr 0 0)]/\h=[.box 30 ((bJ s).map .d),.gone,.gone,.it 3 true E seen]) _ _ _ ⟨[],(Nn:Int),List.nodup_nil,by simp,rfl,by simp,by simp,rfl,rfl⟩ wf ?_;rintro m e h ⟨seen,c,ml,hlt,hm,hc,hle,rfl,rfl⟩ C2 jU;replace hc:=Xi hc;replace hlt:=Xi hlt;refine Ij ag am (by rfl) (D9 (k:=3) (x:= .tmp 58) ag ak rfl rfl rfl rfl rfl rfl zr zr rfl rfl ak ?_ ?_)
    ·intro bO;have mV:=Nl (p:=ig s.net.vpcs) ml hlt.out bO;by_cases hz:c=0
     ·have qw:R=0:=by rw[aR.out,ah];have:=hc.out;omega
      rw[qw];subst hz;clear mV bO ml hm;change sC _ _ _ _ _ _ _ _ _ _;exact aY
     ·have qw:R=1:=by rw[aR.out,af];have:=hc.out;omega
      have F6:(c !=0)=true:=by simpa using hz
      rw[qw];clear mV bO ml hm;replace hz:=Xi hz;change sC _ _ _ _ _ _ _ _ _ _;exact aY
    ·intro i hi VT;obtain⟨kv,CV⟩:∃kv,E[i]? =some kv:=⟨_,Xj hi⟩;have hgl:(seen++[i]).getLast? =some i:=ak;have oZ:=x9 jy (fun v=>v.id==kv.2) s.net.vpcs 36 [.ept [.v (.int .i64 kv.2)]] (by have:=gB.out;omega) (fun v _=>KH v kv.2);have hcp:=List.countP_le_length (p:=lV E (ig s.net.vpcs)) (l:=seen);have kr:(seen++[i]).Nodup:=by rw[Z'];exact⟨ml,by simp,fun a ha b hb e=>VT (by simp at hb;subst hb;subst e;exact ha)⟩
     have Jf:∀j∈seen++[i],j < E.length:=fun j hj=>by
      rcases X0.1 hj with h|h
      ·exact hlt.out j h
      ·simp at h;omega
     have zi:=Iy hi VT;have bV:(seen++[i]).length<=E.length:=by
      have:=(kr.length_le_of_subset (fun j hj=>YO.2 (Jf j hj)):(seen++[i]).length<=(X4 E.length).length);simpa using this
     have tI:(seen++[i]).countP (lV E (ig s.net.vpcs))=seen.countP (lV E (ig s.net.vpcs))+if ig s.net.vpcs kv.2 then 1 else 0:=by
      rw[List.countP_append];simp[lV,CV]
     by_cases hb:ig s.net.vpcs kv.2=true
     ·have jT:(s.net.vpcs.any fun v=>v.id==kv.2)=true:=hb;rw[jT]at oZ;rw[ah hb]at tI;have hwc:IntKind.i64.wrap (c - 1)=c - 1:=by have:=hc.out;have:=a1n.out;have:=gB.out;rw[IntKind.wrap_i64];omega
      have vK:c - 1=(Nn:Int) - ((seen++[i]).countP (lV E (ig s.net.vpcs)):Nat):=by rw[tI];have:=hc.out;omega
      replace tI:=Xi tI;replace vK:=Xi vK;replace hb:=Xi hb;clear jT;replace kr:=Xi kr;replace Jf:=Xi Jf;replace zi:=Xi zi;replace bV:=Xi bV;change sC _ _ _ _ _ _ _ _ _ _;refine aq ?_;exact jU _ _ _ _ _ (by rw[hm];exact zi.out) ⟨_,_,kr.out,Jf.out,rfl,vK.out,bV.out,rfl,rfl⟩ wf
     ·have jT:(s.net.vpcs.any fun v=>v.id==kv.2)=false:=by simpa[ig]using hb
      rw[jT]at oZ;rw[af hb]at tI;have vK:c=(Nn:Int) - ((seen++[i]).countP (lV E (ig s.net.vpcs)):Nat):=by rw[tI];have:=hc.out;omega
      replace tI:=Xi tI;replace vK:=Xi vK;replace hb:=Xi hb;clear jT;replace kr:=Xi kr;replace Jf:=Xi Jf;replace zi:=Xi zi;replace bV:=Xi bV;change sC _ _ _ _ _ _ _ _ _ _;refine aq ?_;exact jU _ _ _ _ _ (by rw[hm];exact zi.out) ⟨_,_,kr.out,Jf.out,rfl,vK.out,bV.out,rfl,rfl⟩ wf
  ·have e2:(cJ s.net !=0)=true:=by simpa using h2
   have tN:R=cJ s.net:=by rw[hR.out];unfold fj;rw[af (by simpa using h1),ah h2]
   rw[tN];generalize cJ s.net=X at*;refine pj func11 ntmps11 results11 ?_;exact aY
 ·have e2:(bn s.book !=0)=true:=by simpa using h1
  have tN:R=bn s.book:=by rw[hR.out];unfold fj;rw[ah h1]
  rw[tN];generalize bn s.book=X at*;refine pj func11 ntmps11 results11 ?_;exact aY
theorem a4j {p:Prop}(h:p:=by
 rintro ((h|h)|h)
 ·exact .inl (.inl h)
 ·exact .inr h
 ·exact .inl (.inr h)):p:=h
theorem a4t {p:Prop}(h:p:=by
 exact⟨fun h=>by cases h;exact .v _,fun h=>by cases h;exact .v _⟩):p:=h
theorem NH (i j:Flo){M:Nat->Prop}{w:World}{d:D}{v:Value}(hM:∀b,¬M b->i.N<=b)(h:@RepD i M w d v):@RepD j M w d v:=by
 induction h with
 |v x=>exact @RepD.v j _ _ x
 |nil sz ao cap hm=>exact @RepD.nil j _ _ sz ao cap hm
 |sl sz rows b off cap f hM' hb hc hm hr h1 cf aU hz ih=>exact @RepD.sl j _ _ sz rows b off cap f hM' hb hc hm hr h1 cf (fun a c r d hr hd=>ih a c r d hr hd hM) (fun _=>hz (hM b hM'))
 |ept cells b off f hM' hb h1 cf aU hz ih=>exact @RepD.ept j _ _ cells b off f hM' hb h1 cf (fun a d hd=>ih a d hd hM) (fun _=>hz (hM b hM'))
 |agg cells vs hl h1 aU ih=>exact @RepD.agg j _ _ cells vs hl h1 fun a d x hj hx=>ih a d x hj hx hM
 |tup ds vs hl aU ih=>exact @RepD.tup j _ _ ds vs hl fun a d x hj hx=>ih a d x hj hx hM
 |clo g caps vs hl aU ih=>exact @RepD.clo j _ _ g caps vs hl fun a d x hj hx=>ih a d x hj hx hM
 |nei t x=>exact @RepD.nei j _ _ t x
 |fr N x v h ih=>exact @RepD.fr j _ _ N x v (ih fun b hb=>hM b fun h=>hb (.inl h))
theorem IF (i j:Flo){c:Cx}{w:World}{p:PV}{v:Value}(hM:∀b,¬c.M b->i.N<=b)(h:@RepP i c w p v):@RepP j c w p v:=by
 induction h with
 |d x v h=>exact @RepP.d j _ _ x v (NH i j hM h)
 |any v=>exact @RepP.any j _ _ v
 |ptr k off b h=>exact @RepP.ptr j _ _ k off b h
 |own k g v h h1=>exact @RepP.own j _ _ k g v h h1
 |rp k g sz a b' b n cap h=>exact @RepP.rp j _ _ k g sz a b' b n cap h
 |osl k g sz a n b o N cap h hn hc ho=>exact @RepP.osl j _ _ k g sz a n b o N cap h hn hc ho
 |clo g caps vs hl aU ih=>exact @RepP.clo j _ _ g caps vs hl ih
 |agg cells vs hl h1 aU ih=>exact @RepP.agg j _ _ cells vs hl h1 ih
 |tup ds vs hl aU ih=>exact @RepP.tup j _ _ ds vs hl ih
 |mref k b h=>exact @RepP.mref j _ _ k b h
theorem yb (i j:Flo){c:Cx}{w:World}{ps:List PV}{vs:List Value}(hM:∀b,¬c.M b->i.N<=b)(h:@bA i c w ps vs):@bA j c w ps vs:=⟨h.1,fun a d x hj hx=>IF i j hM (h.2 a d x hj hx)⟩
theorem EF (i j:Flo){c:Cx}{w:World}{k:Nat}{ch:Chunk}(hM:∀b,¬c.M b->i.N<=b)(h:@ChunkOK i c w k ch):@ChunkOK j c w k ch:=by
 cases h with
 |none h1 h2=>exact @ChunkOK.none j _ _ _ h1 h2
 |gone=>exact @ChunkOK.gone j _ _ _
 |mp n s ents b h1 h2 h3=>exact @ChunkOK.mp j _ _ _ n s ents b h1 h2 h3
 |it n s ents seen b bm h1 h2 h3 h4=>exact @ChunkOK.it j _ _ _ n s ents seen b bm h1 h2 h3 h4
 |box T cells b vs h1 h2 h3 h4=>exact @ChunkOK.box j _ _ _ T cells b vs h1 h2 (yb i j hM h3) h4
 |row E sz g rows v xs h1 h2 h3 h4 h5 h6=>exact @ChunkOK.row j _ _ _ E sz g rows v xs h1 h2 (yb i j hM h3) h4 h5 h6
def KI (N:Nat):D->D
 | .v x=> .v x
 |d=> .fr N d
def VI (N:Nat):D->D
 | .v x=> .v x
 | .agg cells=> .agg (cells.map (KI N))
 |d=> .fr N d
def VJ (N:Nat):D->D
 | .tup ds=> .tup (ds.map (VI N))
 |d=>VI N d
theorem wy (N:Nat)(d:D):(KI N d).one=d.one:=by cases d<;>rfl
theorem G2 [Flo]{M:Nat->Prop}{w:World}{N:Nat}{d:D}{v:Value}:RepD M w (.fr N d) v↔RepD (fun b=>M b\/b < N) w d v:=⟨fun h=>by cases h;assumption,.fr N d v⟩
theorem sO [Flo]{M:Nat->Prop}{w:World}{N:Nat}{d:D}{v:Value}:RepD M w (KI N d) v↔RepD (fun b=>M b\/b < N) w d v:=by
 cases d with
 |v x=>exact a4t
 |_=>exact G2
theorem lx [Flo]{M:Nat->Prop}{w:World}{N:Nat}{d:D}{v:Value}:RepD M w (VI N d) v↔RepD (fun b=>M b\/b < N) w d v:=by
 cases d with
 |v x=>exact a4t
 |agg cells=>
  refine⟨fun h=>?_,fun h=>?_⟩
  ·generalize hc:VI N (.agg cells)=q at h;cases h<;>simp only[VI,D.agg.injEq,reduceCtorEq]at hc;subst hc;rename_i vs hl h1 aU;refine .agg cells vs (by simpa using hl) (fun d hd=>?_) fun j d x hj hx=>?_
   ·rw[<-wy N d];exact h1 _ (XF.2 ⟨d,hd,rfl⟩)
   ·exact sO.1 (aU j _ x (by rw[Xr,hj];rfl) hx)
  ·cases h with
   |agg _ vs hl h1 aU=>
    refine .agg (cells.map (KI N)) vs (by simpa using hl) (fun d hd=>?_) fun j d x hj hx=>?_
    ·obtain⟨y,hy,rfl⟩:=XF.1 hd;rw[wy];exact h1 y hy
    ·rw[Xr,XB]at hj;obtain⟨y,hy,rfl⟩:=hj;exact sO.2 (aU j y x hy hx)
 |_=>exact G2
theorem IG [Flo]{M:Nat->Prop}{w:World}{N:Nat}{d:D}{v:Value}:RepD M w (VJ N d) v↔RepD (fun b=>M b\/b < N) w d v:=by
 cases d with
 |tup ds=>
  refine⟨fun h=>?_,fun h=>?_⟩
  ·generalize hc:VJ N (.tup ds)=q at h;cases h<;>simp only[VJ,D.tup.injEq,reduceCtorEq]at hc;subst hc;rename_i vs hl aU;exact .tup ds vs (by simpa using hl) fun j d x hj hx=>lx.1 (aU j _ x (by rw[Xr,hj];rfl) hx)
  ·cases h with
   |tup _ vs hl aU=>
    refine .tup (ds.map (VI N)) vs (by simpa using hl) fun j d x hj hx=>?_;rw[Xr,XB]at hj;obtain⟨y,hy,rfl⟩:=hj;exact lx.2 (aU j y x hy hx)
 |v x=>exact lx (d:= .v x)
 |sl sz rows=>exact lx (d:= .sl sz rows)
 |ept cells=>exact lx (d:= .ept cells)
 |agg cells=>exact lx (d:= .agg cells)
 |clo g caps=>exact lx (d:= .clo g caps)
 |nei=>exact lx (d:= .nei)
 |fr K x=>exact lx (d:= .fr K x)
theorem Th [Flo](hG:Qg=[])(M:Nat->Prop)(w:World):@BF ⟨0⟩ M w:=⟨fun x hx=>(by rw[hG]at hx;cases hx),XE _,fun _ _=>XE _⟩
def PV.plain:PV->Bool
 | .agg _=>false
 | .tup _=>false
 | .clo _ _=>false
 |_=>true
def Dg (N:Nat):PV->PV
 | .d d=> .d (VJ N d)
 |p=>p
def G3 (N:Nat):Chunk->Chunk
 | .box T cells=> .box T (cells.map (Dg N))
 | .row E sz g rows=> .row E sz g (rows.map (·.map (Dg N)))
 |c=>c
def Chunk.plain:Chunk->Bool
 | .box _ cells=>cells.all fun p=>p.plain&&p.one
 | .row _ _ _ rows=>rows.all fun r=>r.all fun p=>p.plain&&p.one
 | .it _ _ _ _=>false
 |_=>true
def Cx.up (c:Cx)(N:Nat):Cx:={c with M:=fun b=>c.M b\/b < N}
theorem uv (c:Cx)(N k:Nat)(ch:Chunk):(c.up N).block k ch=c.block k ch:=by cases ch<;>rfl
theorem sP (c:Cx)(N k:Nat)(ch:Chunk):c.block k (G3 N ch)=c.block k ch:=by cases ch<;>rfl
theorem Cq [Flo]{c:Cx}{w:World}{N:Nat}{p:PV}{v:Value}(hp:p.plain=true):RepP c w (Dg N p) v↔RepP (c.up N) w p v:=by
 cases p with
 |d x=>exact⟨fun h=>by cases h with|d _ _ h=>exact .d _ _ (IG.1 h),fun h=>by cases h with|d _ _ h=>exact .d _ _ (IG.2 h)⟩
 |any=>exact⟨fun _=> .any _,fun _=> .any _⟩
 |ptr k off=>exact⟨fun h=>by cases h with|ptr _ _ b h=>exact .ptr _ _ b h,fun h=>by cases h with|ptr _ _ b h=>exact .ptr _ _ b h⟩
 |own k g=>exact⟨fun h=>by cases h with|own _ _ v h h1=>exact .own _ _ v h h1,fun h=>by cases h with|own _ _ v h h1=>exact .own _ _ v h h1⟩
 |rp k g sz i j=>exact⟨fun h=>by cases h with|rp _ _ _ _ _ b n cap h=>exact .rp _ _ _ _ _ b n cap h,fun h=>by cases h with|rp _ _ _ _ _ b n cap h=>exact .rp _ _ _ _ _ b n cap h⟩
 |osl k g sz a n=>exact⟨fun h=>by cases h with|osl _ _ _ _ _ b o N cap h h1 h2 h3=>exact .osl _ _ _ _ _ b o N cap h h1 h2 h3,fun h=>by cases h with|osl _ _ _ _ _ b o N cap h h1 h2 h3=>exact .osl _ _ _ _ _ b o N cap h h1 h2 h3⟩
 |mref k=>exact⟨fun h=>by cases h with|mref _ b h=>exact .mref _ b h,fun h=>by cases h with|mref _ b h=>exact .mref _ b h⟩
 |agg _=>cases hp
 |tup _=>cases hp
 |clo _ _=>cases hp
theorem Rm {N:Nat}{d:D}(h:d.one=true):(VJ N d).one=true:=by cases d<;>first|exact h|cases h
theorem IH {N:Nat}{p:PV}(h:p.one=true):(Dg N p).one=true:=by cases p<;>first|exact h|exact Rm h
theorem pG [Flo]{c:Cx}{w:World}{N:Nat}{ps:List PV}{vs:List Value}(hp:∀p∈ps,p.plain=true):bA c w (ps.map (Dg N)) vs↔bA (c.up N) w ps vs:=by
 refine⟨fun h=>⟨by rw[<-h.1,Xs],fun j d x hj hx=>?_⟩,fun h=>⟨by rw[Xs];exact h.1,fun j d x hj hx=>?_⟩⟩
 ·exact(Cq (hp d (Xk hj))).1 (h.2 j _ x (by rw[Xr,hj];rfl) hx)
 ·rw[Xr,XB]at hj;obtain⟨y,hy,rfl⟩:=hj;exact(Cq (hp y (Xk hy))).2 (h.2 j y x hy hx)
theorem NI [Flo]{c:Cx}{w:World}{N k:Nat}{ch:Chunk}(hp:ch.plain=true):ChunkOK c w k (G3 N ch)↔ChunkOK (c.up N) w k ch:=by
 cases ch with
 |none=>exact⟨fun h=>by cases h with|none h1 h2=>exact .none h1 h2,fun h=>by cases h with|none h1 h2=>exact .none h1 h2⟩
 |gone=>exact⟨fun _=> .gone,fun _=> .gone⟩
 |mp n s ents=>exact⟨fun h=>by cases h with|mp _ _ _ b h1 h2 h3=>exact .mp _ _ _ b h1 h2 h3,fun h=>by cases h with|mp _ _ _ b h1 h2 h3=>exact .mp _ _ _ b h1 h2 h3⟩
 |it n s ents seen=>cases hp
 |box T cells=>
  have h0:∀p∈cells,p.plain=true/\p.one=true:=fun p h=>by have:=XD.1 hp p h;simpa using this
  refine⟨fun h=>?_,fun h=>?_⟩
  ·cases h with|box _ _ b vs h1 h2 h3 h4=>exact .box T cells b vs h1 h2 ((pG fun p h=>(h0 p h).1).1 h3) fun d hd=>(h0 d hd).2
  ·cases h with
   |box _ _ b vs h1 h2 h3 h4=>
    refine .box T _ b vs h1 h2 ((pG fun p h=>(h0 p h).1).2 h3) fun d hd=>?_;obtain⟨y,hy,rfl⟩:=XF.1 hd;exact IH (h4 y hy)
 |row E sz g rows=>
  have h0:∀r∈rows,∀p∈r,p.plain=true/\p.one=true:=fun r hr p h=>by have:=XD.1 (XD.1 hp r hr) p h;simpa using this
  have hf:∀p∈rows.flatten,p.plain=true:=fun p h=>by obtain⟨r,hr,hp⟩:=ZL.1 h;exact(h0 r hr p hp).1
  have hm:(rows.map (·.map (Dg N))).flatten=rows.flatten.map (Dg N):=by rw[Z1]
  refine⟨fun h=>?_,fun h=>?_⟩
  ·cases h with
   |row _ _ _ _ v xs h1 h2 h3 h4 h5 h6=>
    rw[hm]at h3;rw[Xs]at h2;exact .row E sz g rows v xs h1 h2 ((pG hf).1 h3) (fun r hr=>by have:=h4 _ (XF.2 ⟨r,hr,rfl⟩);rwa [Xs]at this) (fun r hr d hd=>(h0 r hr d hd).2) h6
  ·cases h with
   |row _ _ _ _ v xs h1 h2 h3 h4 h5 h6=>
    refine .row E sz g _ v xs h1 (by rw[Xs];exact h2) (by rw[hm];exact(pG hf).2 h3) (fun r hr=>?_) (fun r hr d hd=>?_) h6
    ·obtain⟨y,hy,rfl⟩:=XF.1 hr;rw[Xs];exact h4 y hy
    ·obtain⟨y,hy,rfl⟩:=XF.1 hr;obtain⟨z,hz,rfl⟩:=XF.1 hd;exact IH (h5 y hy z hz)
theorem kC (N:Nat):∀(h:List Chunk) (k:Nat),az (h.map (G3 N)) k=G3 N (az h k)
 |[],_=>rfl
 |_::_,0=>rfl
 |_::l,k+1=>kC N l k
theorem uw:∀{h:List Chunk},(∀c∈h,c.plain=true)->∀k,(az h k).plain=true
 |[],_,_=>rfl
 |c::_,hp,0=>hp c ak
 |_::l,hp,k+1=>uw (h:=l) (fun c hc=>hp c (YP _ hc)) k
theorem sQ [Flo]{P:Program}{f:Nat}{args:List PV}{h0 h1:List Chunk}{r:PV}(hG:Qg=[])(h:@MSpec ⟨0⟩ P f args h0 r h1)(pa:∀p∈args,p.plain=true)(p0:∀c∈h0,c.plain=true)(pr:r.plain=true)(p1:∀c∈h1,c.plain=true)
 (Ae:aw (h0.map (G3 Flo.N)).length (args.map (Dg Flo.N))=true) (hbh:aL (h0.map (G3 Flo.N)).length (h0.map (G3 Flo.N))=true):MSpec P f (args.map (Dg Flo.N)) (h0.map (G3 Flo.N)) (Dg Flo.N r) (h1.map (G3 Flo.N)):=by
 obtain⟨SM,hle,-,-,cg⟩:=h;refine⟨SM,by simpa using hle,Ae,hbh,fun X hXP hXn oS w c vs hc vN=>?_⟩;have ip:∀b,¬(c.up Flo.N).M b->Flo.N<=b:=fun b hb=>by
  rcases XL b Flo.N with h|h
  ·exact absurd (.inr h) hb
  ·exact h
 have jr:=hc.inv.2.1;have gQ:=hc.inv.2.2;let Y:Cfg:={X with M0:=fun b=>X.M0 b\/b < Flo.N}
 have kT:@RealC ⟨0⟩ Y (bs [] h0) Gs w (c.up Flo.N):=by
  refine @RealC.mk ⟨0⟩ Y (bs [] h0) Gs w (c.up Flo.N) hc.size hc.defers hc.ext (Th hG _ _) (fun b hb=>?_) (fun b=>?_) (fun k b hb=>?_) (fun k k' b hb hb'=>?_) (fun t=>@RepP.any ⟨0⟩ _ _ _) (fun k=>?_) hc.lent
  ·rcases hb with hb|hb
   ·exact hc.fresh b hb
   ·exact⟨Ya hb jr,fun hL=>absurd (gQ b (.inr hL)) aa⟩
  ·have:=hc.mu b;simp only[bs,kC,sP]at this;simp only[bs,uv];show c.M b\/b < Flo.N↔(X.M0 b\/b < Flo.N)\/_;rw[this];constructor
   ·exact a4j
   ·exact a4j
  ·simp only[bs,uv]at hb;exact hc.new k b (by simp only[bs,kC,sP];exact hb)
  ·simp only[bs,uv]at hb hb';exact hc.apart k k' b (by simp only[bs,kC,sP];exact hb) (by simp only[bs,kC,sP];exact hb')
  ·have:=hc.chunk k;simp only[bs,kC]at this;exact EF _ ⟨0⟩ ip ((NI (uw p0 k)).1 this)
 refine(cg Y hXP hXn (by rw[Xs]at oS;exact oS) w (c.up Flo.N) vs kT (yb _ ⟨0⟩ ip ((pG pa).1 vN))).mono ?_;rintro e w' ⟨v,c',he,hr,q1,q2,q3,-,-,q6,q7,q8,-,q10,q11⟩;have hM:∀b,c'.M b↔(X.M0 b\/b < Flo.N)\/∃k,c'.block k (az h1 k)=some b:=q6;let c2:Cx:={c' with M:=fun b=>c'.M b/\Flo.N<=b}
 have hcu:c2.up Flo.N=c':=by
  show ({M:=fun b=>(c'.M b/\Flo.N<=b)\/b < Flo.N,bl:=c'.bl,ov:=c'.ov}:Cx)=c';have:(fun b=>(c'.M b/\Flo.N<=b)\/b < Flo.N)=c'.M:=by
   funext b;refine propext ⟨fun h=>?_,fun h=>?_⟩
   ·rcases h with h|h
    ·exact h.1
    ·exact(hM b).2 (.inl (.inr h))
   ·rcases XL b Flo.N with hl|hl
    ·exact .inr hl
    ·exact .inl ⟨h,hl⟩
  rw[this]
 have bW:∀k ch,c2.block k (G3 Flo.N ch)=c'.block k ch:=fun k ch=>by cases ch<;>rfl
 have gM:∀k b,c'.block k (az h1 k)=some b->Flo.N<=b:=fun k b hb=>by
  rcases(q7 k b hb).1 with h2|h2
  ·exact gQ b (.inr h2)
  ·exact Yj jr h2
 refine⟨v,c2,he,(Cq pr).2 (by rw[hcu];exact IF ⟨0⟩ _ (fun _ _=>XE _) hr),q1,q2,q3,hc.inv,hc.fresh,fun b=>?_,fun k b hb=>?_,fun k k' b hb hb'=>?_,fun t=>(show RepP c2 w' .any _ from .any _),fun k=>?_,q11⟩
 ·simp only[bs,kC,bW];show c'.M b/\Flo.N<=b↔_;rw[hM b];constructor
  ·rintro⟨(h|h)|h,hl⟩
   ·exact .inl h
   ·omega
   ·exact .inr h
  ·rintro (h|⟨k,hk⟩)
   ·exact⟨.inl (.inl h),gQ b (.inl h)⟩
   ·exact⟨.inr ⟨k,hk⟩,gM k b hk⟩
 ·simp only[bs,kC,bW]at hb;exact q7 k b hb
 ·simp only[bs,kC,bW]at hb hb';exact q8 k k' b hb hb'
 ·have:=q10 k;simp only[bs,kC];exact(NI (uw p1 k)).2 (by rw[hcu];exact EF ⟨0⟩ _ (fun _ _=>XE _) this)
theorem Cr [Flo]{P:Program}{n m:Nat}{e:bU}{h:List Chunk}(k g E sz:Nat)(rows:List (List D))(d:D)(h1d:d.one=true)(hk:az h k= .row E sz g (ab rows))(hd:∀(M:Nat->Prop) (w:World) (v:Value),(∀b,fE v=some b->Flo.N<=b)->RepD M w (.sl sz rows) v->RepD M w d v):cG P n m e h (eM k g d e) (dX k g d 0 h):=by
 intro X _ _ oS a w hr;obtain⟨c,hc⟩:=hr;have hf:=hc.freeze [k];generalize mV:({c with M:=li c (bs e h).heap [k]}:Cx)=cc at hf;have uJ:cc.bl=c.bl:=by rw[<-mV]
 have ec:cc.ov=c.ov:=by rw[<-mV]
 have VS:cc.M=li c (az h) [k]:=by rw[<-mV];rfl
 have hlt:k < h.length:=oc (by rw[hk];simp);have key:∀(p:PV) (v:Value),RepP cc w p v->RepP cc w (fz k g d p) v:=by
  intro p v hp;induction hp with
  |own k' g' v h1 h2=>
   simp only[fz];by_cases e:k'=k/\g'=g
   ·rw[ah e];obtain⟨rfl,rfl⟩:=e;refine .d _ _ (hd _ _ _ (fun b hb=>?_) ?_)
    ·rcases(hc.new k' b (by show c.block k' (az h k')=some b;rw[hk];show (c.ov k' g').bind fE=some b;rw[<-ec,h1];exact hb)).1 with h2|h2
     ·exact hc.inv.2.2 b (.inr h2)
     ·exact Yj hc.inv.2.1 h2
    rw[VS];have hv:br (bs e h).heap 1 (.own k' g')=some (.sl sz rows):=by
     simp only[br,bs,hk,if_true,eL,Yb]
    exact jv hc (T:=[k']) 1 hv (fun k2 jq=>by simpa[cW,bs,hk,nW]using jq) (.own k' g' v (by rw[<-ec];exact h1) h2)
   ·rw[af e];exact .own k' g' v h1 h2
  |clo f caps vs hl aU ih=>exact a3b
  |agg caps vs hl h1 aU ih=>
   simp only[fz,iw];refine .agg _ vs (by rw[Xs];exact hl) (fun d hd=>?_) fun j d x hj hx=>?_
   ·obtain⟨y,hy,rfl⟩:=XF.1 hd;have:=h1 y hy;cases y<;>simp only[fz]<;>first|exact this|(split<;>first|exact h1d|exact this)
   ·exact a4L
  |tup caps vs hl aU ih=>exact a3d
  |d x v h1=>exact .d x v h1
  |any v=>exact .any v
  |ptr k' off b h1=>exact .ptr k' off b h1
  |rp k' g' sz' i j b nn cap h1=>exact .rp k' g' sz' i j b nn cap h1
  |osl k' g' sz' a' nn b o N cap h1 h2 h3 h4=>exact .osl k' g' sz' a' nn b o N cap h1 h2 h3 h4
  |mref k' b h1=>exact .mref k' b h1
 have one:∀(y:PV),y.one=true->(fz k g d y).one=true:=by
  intro y hy;cases y<;>simp only[fz]<;>first|exact hy|(split<;>first|exact h1d|exact hy)
 have keys:∀(l:List PV) (vs:List Value),bA cc w l vs->bA cc w (l.map (fz k g d)) vs:=a3a
 have dh:∀i,az (dX k g d 0 h) i=eF k g d (cw ([k].map fun k=>(k,.gone)) (az h) i):=a3y
 have oU:∀i ch,cc.block i (eF k g d ch)=cc.block i ch:=fun i ch=>by cases ch<;>rfl
 refine⟨cc,hf.size,hf.defers,hf.ext,hf.inv,hf.fresh,fun b=>?_,fun i b hb=>?_,fun i j b hb hb'=>?_,fun t=>?_,fun i=>?_,hf.lent⟩
 ·rw[hf.mu b];simp only[bs,dh,oU]
 ·simp only[bs,dh,oU]at hb;exact hf.new i b hb
 ·exact a4P
 ·show RepP cc w (dP (eM k g d e) t) _;rw[xp];exact key _ _ (hf.env t)
 ·exact a1W
theorem NJ [Flo]{P:Program}{n m:Nat}{e:bU}{h:List Chunk}(k g E sz:Nat)(rows:List (List D))(hk:az h k= .row E sz g (ab (rows.map (·.map (KI Flo.N))))):cG P n m e h (eM k g (.fr Flo.N (.sl sz rows)) e) (dX k g (.fr Flo.N (.sl sz rows)) 0 h):=by
 refine Cr k g E sz _ (.fr Flo.N (.sl sz rows)) rfl hk fun M w v hb hv=> .fr _ _ _ ?_;generalize hq:D.sl sz (rows.map (·.map (KI Flo.N)))=q at hv;cases hv with
 |nil sz' ao cap hm=>
  simp only[D.sl.injEq]at hq;obtain⟨rfl,hr⟩:=hq;rw[List.map_eq_nil_iff]at hr;subst hr;exact .nil _ ao cap hm
 |sl sz' rows' b off cap f hM hlt hc hm hr h1 cf aU hz=>
  simp only[D.sl.injEq]at hq;obtain⟨rfl,rfl⟩:=hq;simp only[Xs]at hc cf hb ⊢;rcases rows with _|⟨r0,rs⟩
  ·exact .nil _ _ cap hm
  refine .sl _ (r0::rs) b off cap f (fun h=>?_) hlt hc hm (fun r hr'=>?_) (fun r hr' d hd=>?_) cf (fun i j row d hi hj=>?_) hz
  ·rcases h with h|h
   ·exact hM h
   ·obtain⟨cap,rfl⟩:∃c,cap=c+1:=⟨cap - 1,by simp only[XC]at hc;omega⟩;have:=hb b rfl;omega
  ·have:=hr _ (XF.2 ⟨r,hr',rfl⟩);rwa [Xs]at this
  ·rw[<-wy Flo.N d];exact h1 _ (XF.2 ⟨r,hr',rfl⟩) _ (XF.2 ⟨d,hd,rfl⟩)
  ·exact sO.1 (aU i j _ _ (by rw[Xr,hi];rfl) (by rw[Xr,hj];rfl))
 |v x=>cases hq
 |ept cells b off f=>cases hq
 |agg cells vs=>cases hq
 |tup ds vs=>cases hq
 |clo g caps vs=>cases hq
 |nei t x=>cases hq
 |fr K x v h=>cases hq
theorem jg [Flo]{α:Type}(enc:α->List D)(l:List α)(hl:l.length<=1000000000):
 MSpec prog 52 [.d (.sl 3 (l.map enc))] [] (.own 0 1) [.row 58 3 1 (ab (l.map enc))]:=by
 cases l with
 |nil=>
  refine sk (pl:=[]) (ql:=[]) fun ao cap=>?_;cases ao with
  |none=>
   simp only[X8];refine mj func52 ntmps52 results52 ?_;have z1z:=@U'.{0};refine fl ?_ ?_ ?_ ?_ ?_ ?_ ?_ ?_<;>first|(with_reducible exact True.intro)|intros
   refine jz (h:=[]) (XA _) 58 3 ?_;exact(gC 0 0 58 3 [] rfl (aW rfl rfl))
  |some a=>
   simp only[X8];refine mj func52 ntmps52 results52 ?_;have z1z:=@Zj.{0};refine fl ?_ ?_ ?_ ?_ ?_ ?_ ?_ ?_<;>first|(with_reducible exact True.intro)|intros
   exact aW rfl rfl
 |cons x l=>
  simp only[XC]at hl;refine mj func52 ntmps52 results52 ?_;have z1z:=@Zj.{0};refine fl ?_ ?_ ?_ ?_ ?_ ?_ ?_ ?_<;>first|(with_reducible exact True.intro)|intros
  all_goals first|omega|exact aW rfl rfl
theorem ST {p:Prop}(h:p:=by
 intro j f hf hj _ C hC;have lh:(j:Int) < (s.faces.length:Int):=aa;have mW:=wi j aa;have ip:=jb.2 f (Xk hf);have jT:j+1<=100:=aa;have qt:(Ye j s.faces).length=j:=by rw[Xo];omega
 replace hf:=Xi hf;have BE:=hf.out;have z1z:=Ln.mk (ls:=[]) (eW f.addrs aa);refine aq ?_<;>intros;refine hC _ _ trivial ((av 8 1 3 1 (f.addrs.map cm) rfl).trans ?_);simp only[eM,fz,ee,dX,eF,d7,aD,aZ,bg,Xl,Xp,Xz,Xx,reduceIte,and_true,true_and,and_self,and_false,false_and,Xw,XG,reduceCtorEq,da];exact wf (hh:=(by rw[aj hf.out,Xn,Xl,Xp,<-aI];rfl)) (hb:=cH) (hbh:=cH)):p:=h
theorem a1Z {p:Prop}(h:p:=by
 refine(aJ 4 ak).trans ((ax ak 5 71 [.d (.v (.int .i64 s.id)),.d (.v (.int .i64 s.at_.at_)),.d (.v (.int .i64 s.at_.len)),.d (.v (.slice none 0 0))] 3 74 2 rfl rfl rfl).trans ?_);exact wf (hb:=cH) (hbh:=cH)):p:=h
theorem a2i {p:Prop}(h:p:=by
 intro _ C;refine aq ?_<;>intros;refine uP _ _ trivial ((av 6 s.faces.length 74 2 (s.faces.map bR) rfl).trans ?_);simp only[eM,fz,ee,dX,eF,d7,aD,aZ,bg,Xl,Xp,Xz,Xx,reduceIte,and_true,true_and,and_self,and_false,false_and,Xw,XG,reduceCtorEq];exact wf (hh:=(by rw[aj hs.out,Xn,Xl,Xp,<-aI];rfl)) (hb:=cH) (hbh:=cH)):p:=h
theorem a2m {p:Prop}(h:p:=by
 refine(aJ 0 ak).trans ((ax ak 2 55 [.d (.v (.int .i64 v.id)),.own 1 1,.d (.v (.slice none 0 0))] 2 71 4 rfl rfl rfl).trans ?_);exact wf (hb:=cH) (hbh:=cH)):p:=h
theorem eW [Flo](l:List Int)(hl:l.length<=1000000000):
 MSpec prog 53 [.d (.sl 1 (l.map cm))] [] (.own 0 1) [.row 3 1 1 (ab (l.map cm))]:=by
 cases l with
 |nil=>
  refine sk (pl:=[]) (ql:=[]) fun ao cap=>?_;cases ao with
  |none=>
   simp only[X8];refine mj func53 ntmps53 results53 ?_;have z1z:=@U'.{0};refine fl ?_ ?_ ?_ ?_ ?_ ?_ ?_ ?_<;>first|(with_reducible exact True.intro)|intros
   refine jz (h:=[]) (XA _) 3 1 ?_;exact(gC 0 0 3 1 [] rfl (aW rfl rfl))
  |some a=>
   simp only[X8];refine mj func53 ntmps53 results53 ?_;have z1z:=@Zj.{0};refine fl ?_ ?_ ?_ ?_ ?_ ?_ ?_ ?_<;>first|(with_reducible exact True.intro)|intros
   exact aW rfl rfl
 |cons x l=>
  simp only[XC]at hl;refine mj func53 ntmps53 results53 ?_;have z1z:=@Zj.{0};refine fl ?_ ?_ ?_ ?_ ?_ ?_ ?_ ?_<;>first|(with_reducible exact True.intro)|intros
  all_goals first|omega|exact aW rfl rfl
theorem l8 [Flo](v:Vpc)(h:bM v≠0):
 MSpec prog 142 [.d (.agg (au v))] [] (.tup [.ptr 1 0,.d (.v (.int .i64 (bM v)))]) [.gone,.box 55 [.d (.v (.int .i64 0)),.d (.v (.slice none 0 0)),.d (.v (.slice none 0 0))]]:=by
 have hc:=py v;have h1:(bM v !=0)=true:=by simpa using h
 refine mj func142 ntmps142 results142 ?_;refine aq ?_<;>intros;exact(aJ 0 ak).trans (aW rfl rfl)
theorem l9 [Flo](v:Vpc)(h:bM v=0)(h4:v.ranges.length<=4)(h6:v.subs.length<=6)(h8:∀s∈v.subs,s.faces.length<=8/\∀f∈s.faces,f.addrs.length<=4):
 MSpec prog 142 [.d (.agg (au v))] [] (.tup [.ptr 2 0,.d (.v (.int .i64 0))]) [.gone,.row 58 3 1 (ab (v.ranges.map bp)),.box 55 [.d (.v (.int .i64 v.id)),.own 1 1,.own 3 v.subs.length],.row 71 4 v.subs.length (ab (v.subs.map aT))]:=by
 have hc:=py v;rw[h]at hc;replace h:=Xi h;replace h8:=Xi h8;have gB:=jg bp v.ranges aa;refine mj func142 ntmps142 results142 ?_;have z1z:=Ln.mk (ls:=[]) (gB);refine aq ?_<;>intros;refine bq ag am v.subs (fun _=>True) (fun k=>[(28,.d (.v (.int .i64 k))),(27,.d (.v (.int .i64 v.subs.length))),(26,.d (.sl 4 (v.subs.map aT))),(5,.ptr 2 0)])
  (fun k=>[.gone,.row 58 3 1 (ab (v.ranges.map bp)),.box 55 [.d (.v (.int .i64 v.id)),.own 1 1,.own 3 k],.row 71 4 k (ab ((v.subs.take k).map aT))]) trivial ?_ ?_ ?_
 ·exact a2m
 ·intro k s hs hk _ CO uP;have dF:(k:Int) < (v.subs.length:Int):=aa;have cX:=wi k aa;have jb:=h8.out s (Xk hs);have jQ:k+1<=100:=aa;have kV:(Ye k v.subs).length=k:=by rw[Xo];omega
  replace hs:=Xi hs;have mz:=hs.out;refine aq ?_<;>intros;refine bq ag am s.faces (fun _=>True) (fun j=>[(40,.d (.v (.int .i64 j))),(39,.d (.v (.int .i64 s.faces.length))),(38,.d (.sl 2 (s.faces.map bR))),(28,.d (.v (.int .i64 k))),(27,.d (.v (.int .i64 v.subs.length))),(26,.d (.sl 4 (v.subs.map aT))),(8,.ptr 5 0),(5,.ptr 2 0)])
   (fun j=>[.gone,.row 58 3 1 (ab (v.ranges.map bp)),.box 55 [.d (.v (.int .i64 v.id)),.own 1 1,.own 3 k],.row 71 4 k (ab ((v.subs.take k).map aT)),.gone,.box 71 [.d (.v (.int .i64 s.id)),.d (.v (.int .i64 s.at_.at_)),.d (.v (.int .i64 s.at_.len)),.own 6 j],.row 74 2 j (ab ((s.faces.take j).map bR))]) trivial ?_ ?_ ?_
  ·exact a1Z
  ·exact ST
  ·exact a2i
 ·exact a3t
theorem rB [Flo]{α:Type}(enc:α->List D)(l:List α)(hl:l.length<=1000000000):
 MSpec prog 50 [.d (.sl 2 (l.map enc))] [] (.own 0 1) [.row 76 2 1 (ab (l.map enc))]:=by
 cases l with
 |nil=>
  refine sk (pl:=[]) (ql:=[]) fun ao cap=>?_;cases ao with
  |none=>
   simp only[X8];refine mj func50 ntmps50 results50 ?_;have z1z:=@U'.{0};refine fl ?_ ?_ ?_ ?_ ?_ ?_ ?_ ?_<;>first|(with_reducible exact True.intro)|intros
   refine jz (h:=[]) (XA _) 76 2 ?_;exact(gC 0 0 76 2 [] rfl (aW rfl rfl))
  |some a=>
   simp only[X8];refine mj func50 ntmps50 results50 ?_;have z1z:=@Zj.{0};refine fl ?_ ?_ ?_ ?_ ?_ ?_ ?_ ?_<;>first|(with_reducible exact True.intro)|intros
   exact aW rfl rfl
 |cons x l=>
  simp only[XC]at hl;refine mj func50 ntmps50 results50 ?_;have z1z:=@Zj.{0};refine fl ?_ ?_ ?_ ?_ ?_ ?_ ?_ ?_<;>first|(with_reducible exact True.intro)|intros
  all_goals first|omega|exact aW rfl rfl
theorem qh [Flo](n:Net)(h:cJ n≠0):
 MSpec prog 132 [.d (.agg (cN n))] [] (.tup [.ptr 1 0,.d (.v (.int .i64 (cJ n)))]) [.gone,.box 28 [.d (.v (.slice none 0 0)),.d (.v (.slice none 0 0))]]:=by
 have hc:=xM n;have h1:(cJ n !=0)=true:=by simpa using h
 refine mj func132 ntmps132 results132 ?_;refine aq ?_<;>intros;exact(aJ 0 ak).trans (aW rfl rfl)
theorem sR [Flo](n:Net)(h:cJ n=0):
 MSpec prog 132 [.d (.agg (cN n))] [] (.tup [.ptr 2 0,.d (.v (.int .i64 0))]) [.gone,.row 76 2 1 (ab (n.links.map bS)),.box 28 [.own 3 n.vpcs.length,.own 1 1],.row 55 3 n.vpcs.length (ab (n.vpcs.map au))]:=by
 have hc:=xM n;rw[h]at hc;have bD:=gw.1 h;have n6:=bD.n6;have TB:=Xi bD.vp;have a1o:=rB bS n.links (by have:=bD.n12;omega);clear bD;replace h:=Xi h;refine mj func132 ntmps132 results132 ?_;have z1z:=Ln.mk (ls:=[]) (a1o);refine aq ?_<;>intros;refine bq ag am n.vpcs (fun _=>True) (fun k=>[(29,.d (.v (.int .i64 k))),(28,.d (.v (.int .i64 n.vpcs.length))),(27,.d (.sl 3 (n.vpcs.map au))),(5,.ptr 2 0)])
  (fun k=>[.gone,.row 76 2 1 (ab (n.links.map bS)),.box 28 [.own 3 k,.own 1 1],.row 55 3 k (ab ((n.vpcs.take k).map au))]) trivial ?_ ?_ ?_
 ·refine(aJ 0 ak).trans ((ax ak 2 28 [.d (.v (.slice none 0 0)),.own 1 1] 0 55 3 rfl rfl rfl).trans ?_);exact wf (hb:=cH) (hbh:=cH)
 ·intro k v hv hk _ CN hCN;have dF:(k:Int) < (n.vpcs.length:Int):=aa;have cX:=wi k aa;have qq:k+1<=100:=aa;have hlv:(Ye k n.vpcs).length=k:=by rw[Xo];omega
  have oT:=be (TB.out v (Xk hv));have h6:=oT.n6;have h8:=Xi oT.n8;have a1p:=jg bp v.ranges (by have:=oT.n4;omega);clear oT;replace hv:=Xi hv;have Dh:=hv.out;have z1z:=Ln.mk (ls:=[]) (a1p);refine aq ?_<;>intros;refine bq ag am v.subs (fun _=>True) (fun j=>[(42,.d (.v (.int .i64 j))),(41,.d (.v (.int .i64 v.subs.length))),(40,.d (.sl 4 (v.subs.map aT))),(8,.ptr 6 0),(29,.d (.v (.int .i64 k))),(28,.d (.v (.int .i64 n.vpcs.length))),(27,.d (.sl 3 (n.vpcs.map au))),(5,.ptr 2 0)])
   (fun j=>[.gone,.row 76 2 1 (ab (n.links.map bS)),.box 28 [.own 3 k,.own 1 1],.row 55 3 k (ab ((n.vpcs.take k).map au)),.gone,.row 58 3 1 (ab (v.ranges.map bp)),.box 55 [.d (.v (.int .i64 v.id)),.own 5 1,.own 7 j],.row 71 4 j (ab ((v.subs.take j).map aT))]) trivial ?_ ?_ ?_
  ·refine(aJ 4 ak).trans ((ax ak 6 55 [.d (.v (.int .i64 v.id)),.own 5 1,.d (.v (.slice none 0 0))] 2 71 4 rfl rfl rfl).trans ?_);exact wf (hb:=cH) (hbh:=cH)
  ·intro j s hs hj _ CO uP;have lh:(j:Int) < (v.subs.length:Int):=aa;have mW:=wi j aa;have jb:=h8.out s (Xk hs);have jQ:j+1<=100:=aa;have kV:(Ye j v.subs).length=j:=by rw[Xo];omega
   replace hs:=Xi hs;have mz:=hs.out;refine aq ?_<;>intros;refine bq ag am s.faces (fun _=>True) (fun i=>[(54,.d (.v (.int .i64 i))),(53,.d (.v (.int .i64 s.faces.length))),(52,.d (.sl 2 (s.faces.map bR))),(11,.ptr 9 0),(42,.d (.v (.int .i64 j))),(41,.d (.v (.int .i64 v.subs.length))),(40,.d (.sl 4 (v.subs.map aT))),(8,.ptr 6 0),(29,.d (.v (.int .i64 k))),(28,.d (.v (.int .i64 n.vpcs.length))),(27,.d (.sl 3 (n.vpcs.map au))),(5,.ptr 2 0)])
    (fun i=>[.gone,.row 76 2 1 (ab (n.links.map bS)),.box 28 [.own 3 k,.own 1 1],.row 55 3 k (ab ((n.vpcs.take k).map au)),.gone,.row 58 3 1 (ab (v.ranges.map bp)),.box 55 [.d (.v (.int .i64 v.id)),.own 5 1,.own 7 j],.row 71 4 j (ab ((v.subs.take j).map aT)),.gone,.box 71 [.d (.v (.int .i64 s.id)),.d (.v (.int .i64 s.at_.at_)),.d (.v (.int .i64 s.at_.len)),.own 10 i],.row 74 2 i (ab ((s.faces.take i).map bR))]) trivial ?_ ?_ ?_
   ·refine(aJ 8 ak).trans ((ax ak 9 71 [.d (.v (.int .i64 s.id)),.d (.v (.int .i64 s.at_.at_)),.d (.v (.int .i64 s.at_.len)),.d (.v (.slice none 0 0))] 3 74 2 rfl rfl rfl).trans ?_);exact wf (hb:=cH) (hbh:=cH)
   ·intro i f hf hi _ C hC;have SP:(i:Int) < (s.faces.length:Int):=aa;have Ai:=wi i aa;have ip:=jb.2 f (Xk hf);have jT:i+1<=100:=aa;have hli:(Ye i s.faces).length=i:=by rw[Xo];omega
    replace hf:=Xi hf;have BE:=hf.out;have z1z:=Ln.mk (ls:=[]) (eW f.addrs aa);refine aq ?_<;>intros;refine hC _ _ trivial ((av 12 1 3 1 (f.addrs.map cm) rfl).trans ?_);simp only[eM,fz,ee,dX,eF,d7,aD,aZ,bg,Xl,Xp,Xz,Xx,reduceIte,and_true,true_and,and_self,and_false,false_and,Xw,XG,reduceCtorEq];exact wf (hh:=(by rw[aj hf.out,Xn,Xl,Xp,<-aI];rfl)) (hb:=cH) (hbh:=cH)
   ·intro _ C;refine aq ?_<;>intros;refine uP _ _ trivial ((av 10 s.faces.length 74 2 (s.faces.map bR) rfl).trans ?_);simp only[eM,fz,ee,dX,eF,d7,aD,aZ,bg,Xl,Xp,Xz,Xx,reduceIte,and_true,true_and,and_self,and_false,false_and,Xw,XG,reduceCtorEq];exact wf (hh:=(by rw[aj hs.out,Xn,Xl,Xp,<-aI];rfl)) (hb:=cH) (hbh:=cH)
  ·intro _ C;refine aq ?_<;>intros;refine hCN _ _ trivial ((av 7 v.subs.length 71 4 (v.subs.map aT) rfl).trans ?_);simp only[eM,fz,ee,dX,eF,d7,aD,aZ,bg,Xl,Xp,Xz,Xx,reduceIte,and_true,true_and,and_self,and_false,false_and,Xw,XG,reduceCtorEq];refine(av 5 1 58 3 (v.ranges.map bp) rfl).trans ?_;simp only[eM,fz,ee,dX,eF,d7,aD,aZ,bg,Xl,Xp,Xz,Xx,reduceIte,and_true,true_and,and_self,and_false,false_and,Xw,XG,reduceCtorEq];exact wf (hh:=(by rw[aj hv.out,Xn,Xl,Xp,<-aI];rfl)) (hb:=cH) (hbh:=cH)
 ·intro _ C;refine aq ?_<;>intros;exact aW rfl rfl
theorem a2y {p:Prop}(h:p:=by
 refine(aJ 10 ak).trans ((ax ak 11 71 [.d (.v (.int .i64 u.id)),.d (.v (.int .i64 u.at_.at_)),.d (.v (.int .i64 u.at_.len)),.d (.v (.slice none 0 0))] 3 74 2 rfl rfl rfl).trans ?_);exact wf):p:=h
theorem a2S {p:Prop}(h:p:=by
 refine(ax ak 3 30 [.d (.v (.int .i64 s.book.tick)),.d (.v (.slice none 0 0)),.d (.v (.slice none 0 0)),.own 2 1] 1 62 9 rfl rfl rfl).trans ?_;exact wf):p:=h
theorem a3g {p:Prop}(h:p:=by
 refine(aJ 6 ak).trans ((ax ak 8 55 [.d (.v (.int .i64 v.id)),.own 7 1,.d (.v (.slice none 0 0))] 2 71 4 rfl rfl rfl).trans ?_);exact wf):p:=h
theorem a3q {p:Prop}(h:p:=by
 intro _ C;rw[Xq];refine aq ?_;refine cG.trans (aJ 1 (by simp[bw])) ?_;refine cG.trans (aJ 3 (by simp[bw])) ?_;exact wf):p:=h
@[go_sem] def Ti (N:Nat)(f:Fce):List D:=[.v (.int .i64 f.id),.fr N (.sl 1 (f.addrs.map cm))]
@[go_sem] def NK (N:Nat)(s:Sbn):List D:=[.v (.int .i64 s.id),.v (.int .i64 s.at_.at_),.v (.int .i64 s.at_.len),.fr N (.sl 2 (s.faces.map bR))]
@[go_sem] def ez (N:Nat)(v:Vpc):List D:=[.v (.int .i64 v.id),.fr N (.sl 3 (v.ranges.map bp)),.fr N (.sl 4 (v.subs.map aT))]
@[go_sem] def II (N:Nat)(p:Pol):List D:=[.v (.int .i64 p.id),.v (.int .i64 p.up),.v (.int .i64 p.root.at_),.v (.int .i64 p.root.len),.v (.int .i64 p.rule.min),.v (.int .i64 p.rule.max),.v (.int .i64 p.rule.usual),.v (.int .i64 p.rule.cool),.fr N (.sl 5 (p.leases.map bc))]
theorem cT [Flo]{P:Program}{n m:Nat}{e:bU}{h:List Chunk}{α:Type}(k g E sz:Nat)(l:List α)(enc encG':α->List D)(hg:∀x,(enc x).map (KI Flo.N)=encG' x)(hk:az h k= .row E sz g (ab (l.map encG'))):cG P n m e h (eM k g (.fr Flo.N (.sl sz (l.map enc))) e) (dX k g (.fr Flo.N (.sl sz (l.map enc))) 0 h):=by
 refine NJ k g E sz (l.map enc) ?_;rw[hk,Z4];congr 2;exact Y0 fun x _=>(hg x).symm
theorem Rn [Flo](s:Ste)(hb:BookOK s.book)(hn:NetOK s.net):
 MSpec prog 26 [.d (.agg (bJ s))] [] (.agg [.d (.v (.int .i64 s.book.tick)),.d (.fr Flo.N (.sl 9 (s.book.pools.map al))),.own 5 s.net.vpcs.length,.d (.fr Flo.N (.sl 2 (s.net.links.map bS)))]) [.gone,.gone,.gone,.gone,.gone,.row 55 3 s.net.vpcs.length (ab (s.net.vpcs.map (ez Flo.N)))]:=by
 have n8:=hb.n8;have nP:=Xi hb.l32;have n6:=hn.n6;have TB:=Xi hn.vp;have z1:=Ln.mk (ls:=[]) (rB bS s.net.links (by have:=hn.n12;omega));clear hb hn;refine mj func26 ntmps26 results26 ?_;refine aq ?_;refine bq ag am s.book.pools (fun _=>True) (fun k=>[(28,.d (.v (.int .i64 k))),(27,.d (.v (.int .i64 s.book.pools.length))),(26,.d (.sl 9 (s.book.pools.map al))),(3,.ptr 3 0),(2,.ptr 1 0),(1,.ptr 0 0)])
  (fun k=>[.box 30 ((bJ s).map .d),.box 30 [.d (.v (.int .i64 0)),.d (.v (.slice none 0 0)),.d (.v (.slice none 0 0)),.d (.v (.slice none 0 0))],.row 76 2 1 (ab (s.net.links.map bS)),.box 30 [.d (.v (.int .i64 s.book.tick)),.own 4 k,.d (.v (.slice none 0 0)),.own 2 1],.row 62 9 k (ab ((s.book.pools.take k).map (II Flo.N)))]) trivial ?_ ?_ ?_
 ·exact a2S
 ·intro k p hp hk _ C hC;have dF:(k:Int) < (s.book.pools.length:Int):=aa;have cX:=wi k aa;have gz:=nP.out p (Xk hp);have jQ:k+1<=100:=aa;have hlt:(Ye k s.book.pools).length=k:=by rw[Xo];omega
  have z2:=Ln.mk (ls:=[]) (ij bc p.leases aa);refine aq ?_;refine hC _ _ trivial ((cT 6 1 68 5 p.leases bc bc (fun _=>rfl) rfl).trans ?_);simp only[eM,fz,ee,dX,eF,d7,aD,aZ,bg,Xl,Xp,Xz,Xx,reduceIte,and_true,true_and,and_self,and_false,false_and,Xw,XG,reduceCtorEq];exact wf (hh:=by rw[aj hp,Xn,Xl,Xp,<-aI];rfl)
 ·intro _ C;rw[Xq];refine aq ?_;refine bq ag am s.net.vpcs (fun _=>True) (fun k=>[(49,.d (.v (.int .i64 k))),(48,.d (.v (.int .i64 s.net.vpcs.length))),(47,.d (.sl 3 (s.net.vpcs.map au))),(3,.ptr 3 0),(2,.ptr 1 0),(1,.ptr 0 0)])
   (fun k=>[.gone,.box 30 [.d (.v (.int .i64 0)),.d (.v (.slice none 0 0)),.d (.v (.slice none 0 0)),.d (.v (.slice none 0 0))],.gone,.box 30 [.d (.v (.int .i64 s.book.tick)),.d (.fr Flo.N (.sl 9 (s.book.pools.map al))),.own 5 k,.d (.fr Flo.N (.sl 2 (s.net.links.map bS)))],.gone,.row 55 3 k (ab ((s.net.vpcs.take k).map (ez Flo.N)))]) trivial ?_ ?_ ?_
  ·refine(cT 4 s.book.pools.length 62 9 s.book.pools al (II Flo.N) (fun _=>rfl) rfl).trans ?_;simp only[eM,fz,ee,dX,eF,d7,aD,aZ,bg,Xl,Xp,Xz,Xx,reduceIte,and_true,true_and,and_self,and_false,false_and,Xw,XG,reduceCtorEq];refine(cT 2 1 76 2 s.net.links bS bS (fun _=>rfl) rfl).trans ?_;simp only[eM,fz,ee,dX,eF,d7,aD,aZ,bg,Xl,Xp,Xz,Xx,reduceIte,and_true,true_and,and_self,and_false,false_and,Xw,XG,reduceCtorEq];refine(ax ak 3 30 [.d (.v (.int .i64 s.book.tick)),.d (.fr Flo.N (.sl 9 (s.book.pools.map al))),.d (.v (.slice none 0 0)),.d (.fr Flo.N (.sl 2 (s.net.links.map bS)))] 2 55 3 rfl rfl rfl).trans ?_;refine cG.trans (aJ 0 (by simp[bw])) ?_;exact wf
  ·intro k v hv hk _ C hC;have dF:(k:Int) < (s.net.vpcs.length:Int):=aa;have cX:=wi k aa;have qq:k+1<=100:=aa;have hlv:(Ye k s.net.vpcs).length=k:=by rw[Xo];omega
   have oT:=be (TB.out v (Xk hv));have h6:=oT.n6;have h8:=Xi oT.n8;have z3:=Ln.mk (ls:=[]) (jg bp v.ranges (by have:=oT.n4;omega));clear oT;refine aq ?_;refine bq ag am v.subs (fun _=>True) (fun j=>[(62,.d (.v (.int .i64 j))),(61,.d (.v (.int .i64 v.subs.length))),(60,.d (.sl 4 (v.subs.map aT))),(8,.ptr 8 0),(49,.d (.v (.int .i64 k))),(48,.d (.v (.int .i64 s.net.vpcs.length))),(47,.d (.sl 3 (s.net.vpcs.map au))),(3,.ptr 3 0),(2,.ptr 1 0),(1,.ptr 0 0)])
    (fun j=>[.gone,.box 30 [.d (.v (.int .i64 0)),.d (.v (.slice none 0 0)),.d (.v (.slice none 0 0)),.d (.v (.slice none 0 0))],.gone,.box 30 [.d (.v (.int .i64 s.book.tick)),.d (.fr Flo.N (.sl 9 (s.book.pools.map al))),.own 5 k,.d (.fr Flo.N (.sl 2 (s.net.links.map bS)))],.gone,.row 55 3 k (ab ((s.net.vpcs.take k).map (ez Flo.N))),.gone,.row 58 3 1 (ab (v.ranges.map bp)),.box 55 [.d (.v (.int .i64 v.id)),.own 7 1,.own 9 j],.row 71 4 j (ab ((v.subs.take j).map (NK Flo.N)))]) trivial ?_ ?_ ?_
   ·exact a3g
   ·intro j u hu hj _ C2 jU;have lh:(j:Int) < (v.subs.length:Int):=aa;have mW:=wi j aa;have jb:=h8.out u (Xk hu);have jQ:j+1<=100:=aa;have kV:(Ye j v.subs).length=j:=by rw[Xo];omega
    have wH:=Xi hu;have VQ:=Xi hv;clear hv;refine aq ?_;refine bq ag am u.faces (fun _=>True) (fun i=>(74,.d (.v (.int .i64 i)))::(73,.d (.v (.int .i64 u.faces.length)))::(72,.d (.sl 2 (u.faces.map bR)))::(11,.ptr 11 0)::[(62,.d (.v (.int .i64 j))),(61,.d (.v (.int .i64 v.subs.length))),(60,.d (.sl 4 (v.subs.map aT))),(8,.ptr 8 0),(49,.d (.v (.int .i64 k))),(48,.d (.v (.int .i64 s.net.vpcs.length))),(47,.d (.sl 3 (s.net.vpcs.map au))),(3,.ptr 3 0),(2,.ptr 1 0),(1,.ptr 0 0)])
     (fun i=>[.gone,.box 30 [.d (.v (.int .i64 0)),.d (.v (.slice none 0 0)),.d (.v (.slice none 0 0)),.d (.v (.slice none 0 0))],.gone,.box 30 [.d (.v (.int .i64 s.book.tick)),.d (.fr Flo.N (.sl 9 (s.book.pools.map al))),.own 5 k,.d (.fr Flo.N (.sl 2 (s.net.links.map bS)))],.gone,.row 55 3 k (ab ((s.net.vpcs.take k).map (ez Flo.N))),.gone,.row 58 3 1 (ab (v.ranges.map bp)),.box 55 [.d (.v (.int .i64 v.id)),.own 7 1,.own 9 j],.row 71 4 j (ab ((v.subs.take j).map (NK Flo.N))),.gone,.box 71 [.d (.v (.int .i64 u.id)),.d (.v (.int .i64 u.at_.at_)),.d (.v (.int .i64 u.at_.len)),.own 12 i],.row 74 2 i (ab ((u.faces.take i).map (Ti Flo.N)))]) trivial ?_ ?_ ?_
    ·exact a2y
    ·intro i f hf hi _ C3 P8;have SP:(i:Int) < (u.faces.length:Int):=aa;have Ai:=wi i aa;have ip:=jb.2 f (Xk hf);have jT:i+1<=100:=aa;have hli:(Ye i u.faces).length=i:=by rw[Xo];omega
     have z4:=Ln.mk (ls:=[]) (eW f.addrs aa);refine aq ?_;refine P8 _ _ trivial ((cT 14 1 3 1 f.addrs cm cm (fun _=>rfl) rfl).trans ?_);simp only[eM,fz,ee,dX,eF,d7,aD,aZ,bg,Xl,Xp,Xz,Xx,reduceIte,and_true,true_and,and_self,and_false,false_and,Xw,XG,reduceCtorEq];exact wf (hh:=by rw[aj hf,Xn,Xl,Xp,<-aI];rfl)
    ·intro _ C3;rw[Xq];refine aq ?_;refine jU _ _ trivial ((cT 12 u.faces.length 74 2 u.faces bR (Ti Flo.N) (fun _=>rfl) rfl).trans ?_);simp only[eM,fz,ee,dX,eF,d7,aD,aZ,bg,Xl,Xp,Xz,Xx,reduceIte,and_true,true_and,and_self,and_false,false_and,Xw,XG,reduceCtorEq];exact wf (hh:=by rw[aj wH.out,Xn,Xl,Xp,<-aI];rfl)
   ·intro _ C2;rw[Xq];refine aq ?_;refine hC _ _ trivial ((cT 9 v.subs.length 71 4 v.subs aT (NK Flo.N) (fun _=>rfl) rfl).trans ?_);simp only[eM,fz,ee,dX,eF,d7,aD,aZ,bg,Xl,Xp,Xz,Xx,reduceIte,and_true,true_and,and_self,and_false,false_and,Xw,XG,reduceCtorEq];refine(cT 7 1 58 3 v.ranges bp bp (fun _=>rfl) rfl).trans ?_;simp only[eM,fz,ee,dX,eF,d7,aD,aZ,bg,Xl,Xp,Xz,Xx,reduceIte,and_true,true_and,and_self,and_false,false_and,Xw,XG,reduceCtorEq];exact wf (hh:=by rw[aj hv,Xn,Xl,Xp,<-aI];rfl)
  ·exact a3q
def Bok.zero:Bok:=⟨0,[]⟩
theorem mL {b:Bok}{id:Int}{q:Pol}(h:bK b id=some q):∃i:Nat,b.pools[i]? =some q/\q.id=id:=by
 have h1:=Zg h;have h2:=YC h;obtain⟨i,hi,rfl⟩:=XZ.1 h2;exact⟨i,Xj hi,by simpa using h1⟩
theorem ly {b:Bok}{id:Int}{q:Pol}(h:bK b id=some q):∃pre post,b.pools=pre++q::post/\q.id=id:=by
 obtain⟨i,hi,he⟩:=mL h;obtain⟨hlt,rfl⟩:=Xm.1 hi;exact⟨b.pools.take i,b.pools.drop (i+1),by rw[Z6,YV],he⟩
def oO (b:Bok)(id:Int)(root:Pfx)(r:Rul):Int:=
 if dZ id=false\/chk root.at_ root.len≠0 then 3 else
 if (bK b id).isSome=true\/(b.pools.any fun p=>(p.up==0)&&p.root.meets root)=true then 6 else
 if fY r root.len=false then 1 else if b.pools.length=8 then 2 else 0
def gx (b:Bok)(id:Int)(root:Pfx)(r:Rul):Bok × Int:=
 if bn b≠0 then (Bok.zero,bn b)else if oO b id root r≠0 then (Bok.zero,oO b id root r)else (⟨b.tick,l7 ⟨id,0,root,r,[]⟩ b.pools⟩,0)
theorem Ro [Flo](p:Pol)(root:Pfx):ai prog 118 [.agg (al p),.ept (aS root)] (.v (.bool ((p.up==0)&&p.root.meets root))):=by
 have hm:=qd p.root root;refine pj func118 ntmps118 results118 ?_;exact aY
theorem Un [Flo](b:Bok)(id:Int)(root:Pfx)(r:Rul)(hz:∀p∈b.pools,p.leases.length<=3518437208882):ai prog 54 [.agg (bj b),.v (.int .i64 id),.agg (aS root),.agg (vV r)] (.tup [.agg (bj (gx b id root r).1),.v (.int .i64 (gx b id root r).2)]):=by
 by_cases hc:bn b=0
 ·have bW:=db hc;have cV:=kh b hz hc;have hid:=Bc id;have bo:=sE root;have oZ:=Ks l6 (fun p=>(p.up==0)&&p.root.meets root) b.pools 118 [.ept (aS root)] (by have:=bW.n8;omega) (fun p _=>Ro p root);have Al:=GZ r root;have VV:=(Tf b.pools ⟨id,0,root,r,[]⟩ b.pools.length (.v (.int .i64 b.tick)) bW.n8 bW.rise rfl).lep (args':=[.ptr 0 0,.d (.agg [.v (.int .i64 id),.v (.int .i64 0),.v (.int .i64 root.at_),.v (.int .i64 root.len),.v (.int .i64 r.min),.v (.int .i64 r.max),.v (.int .i64 r.usual),.v (.int .i64 r.cool),.v (.slice none 0 0)])]) ⟨.inl rfl,.inr ⟨_,_,rfl,rfl,dg⟩,trivial⟩ rfl;obtain⟨R,hR⟩:∃R,R=gx b id root r:=⟨_,rfl⟩;rw[<-hR];replace hR:=Xi hR;cases hq:bK b id with
  |none=>
   have hf:=oy b id (by have:=bW.n8;omega) bW.rise;unfold pF at hf;rw[hq]at hf;refine pj func54 ntmps54 results54 ?_;have z1z:=Ln.mk (ls:=[]) (cV);have z2z:=Lm.mk (Ln.mk (ls:=[6,7]) (VV));refine fl ?_ ?_ ?_ ?_ ?_ ?_ ?_ ?_<;>first|(with_reducible exact True.intro)|intros
   all_goals clear hf hid bo oZ Al cV VV hz
   all_goals first
    |(rw[show R=(Bok.zero,3) from (by rw[hR.out];unfold gx oO;grind)];(try simp only[Xn,Xl]);exact dg)
    |(rw[show R=(Bok.zero,6) from (by rw[hR.out];unfold gx oO;grind)];(try simp only[Xn,Xl]);exact dg)
    |(rw[show R=(Bok.zero,1) from (by rw[hR.out];unfold gx oO;grind)];(try simp only[Xn,Xl]);exact dg)
    |(rw[show R=(Bok.zero,2) from (by rw[hR.out];unfold gx oO;grind)];(try simp only[Xn,Xl]);exact dg)
    |(rw[show R=(⟨b.tick,l7 ⟨id,0,root,r,[]⟩ b.pools⟩,0) from (by rw[hR.out];unfold gx oO;grind)];(try simp only[Xn,Xl]);exact dg)
  |some q=>
   obtain⟨i,SK,rfl⟩:=mL hq;have hf:=Cp b i q b.pools.length (ab (b.pools.map al)) [] (.d (.v (.int .i64 b.tick))) SK bW.rise bW.n8 (by simp[aH]) (eL _ _ _) (aF _ _) rfl rfl;replace SK:=Xi SK;refine pj func54 ntmps54 results54 ?_;have z1z:=Ln.mk (ls:=[]) (cV);have z2z:=Ln.mk (ls:=[6,7]) (hf);refine fl ?_ ?_ ?_ ?_ ?_ ?_ ?_ ?_<;>first|(with_reducible exact True.intro)|intros
   all_goals clear hf hid bo oZ Al cV VV hz
   all_goals first
    |(rw[show R=(Bok.zero,3) from (by rw[hR.out];unfold gx oO;grind)];(try simp only[Xn,Xl]);exact dg)
    |(rw[show R=(Bok.zero,6) from (by rw[hR.out];unfold gx oO;grind)];(try simp only[Xn,Xl]);exact dg)
 ·have cV:=nJ b hz hc;have hr:gx b id root r=(Bok.zero,bn b):=by unfold gx;rw[ah hc]
  have h1:(bn b !=0)=true:=by simpa using hc
  rw[hr];replace hr:=Xi hr;refine pj func54 ntmps54 results54 ?_;refine aq ?_<;>intros;exact dg
theorem rC (f:PV->Option D):∀(l m:List (List PV)),dk f (l++m)=match dk f l,dk f m with|some a,some b=>some (a++b)|_,_=>none
 |[],m=>by simp only[X8,dk];cases dk f m<;>rfl
 |r::l,m=>by
  simp only[X5,dk,rC f l m];cases cI f r<;>cases dk f l<;>cases dk f m<;>rfl
@[go_sem] theorem iz (h:Nat->Chunk)(n:Nat)(pre:List Pol)(r:List PV)(post:List Pol):dk (br h n) (fZ pre r post)=match cI (br h n) r with|some d=>some (pre.map al++d::post.map al)|none=>none:=by
 simp only[fZ,rC,dk,eL];cases cI (br h n) r<;>rfl
theorem ma {p:Pol}(h:iP p.root (dC p)=0):p.leases.Pairwise fun a b=>a.at_.at_ < b.at_.at_:=by
 obtain⟨h1,h2,h3,h4⟩:=sM.1 h;unfold dC at h3 h4;rw[Y3]at h4;refine h4.imp_of_mem fun {a b} ha hb gQ=>?_;have hr:=(cr.1 (h3 a.at_ (XF.2 ⟨a,ha,rfl⟩))).1;have:=Pfx.hi_bd hr;unfold vn at gQ;omega
def sS (b:Bok)(id:Int)(f:Pol->Pol):Bok:=⟨b.tick,b.pools.map fun q=>if q.id==id then f q else q⟩
theorem oz {b:Bok}{pre post:List Pol}{p:Pol}(hr:ox b.pools)(h:b.pools=pre++p::post)(f:Pol->Pol):sS b p.id f=⟨b.tick,pre++f p::post⟩:=by
 unfold sS;rw[h];have hr':=hr;rw[h]at hr';obtain⟨h1,h2,h3⟩:=YQ.1 hr';rw[YA]at h2;have e1:pre.map (fun q=>if q.id==p.id then f q else q)=pre:=by
  conv=>rhs;rw[<-List.map_id pre]
  refine Y0 fun q hq=>?_;have:=h3 q hq p ak;rw[af aN];rfl
 have e2:post.map (fun q=>if q.id==p.id then f q else q)=post:=by
  conv=>rhs;rw[<-List.map_id post]
  refine Y0 fun q hq=>?_;have:=h2.1 q hq;rw[af aN];rfl
 rw[Xn,Xl,e1,e2];simp
def cQ (b:Bok)(id size owner:Int):Bok × Pfx × Int:=
 if bn b≠0 then (Bok.zero,Pfx.zero,bn b)else
 match bK b id with
 |none=>(Bok.zero,Pfx.zero,5)
 |some p=>
  if dZ owner=false then (Bok.zero,Pfx.zero,3)else
  let f:=cy p (if size=0 then p.rule.usual else size)
  if f.2≠0 then (Bok.zero,Pfx.zero,f.2)else (sS b id fun p=>{p with leases:=iQ ⟨f.1,1,owner,0⟩ p.leases},f.1,0)
theorem NL [Flo](b:Bok)(id size owner:Int)(hz:∀p∈b.pools,p.leases.length<=3518437208882):ai prog 59 [.agg (bj b),.v (.int .i64 id),.v (.int .i64 size),.v (.int .i64 owner)] (.tup [.agg (bj (cQ b id size owner).1),.agg (aS (cQ b id size owner).2.1),.v (.int .i64 (cQ b id size owner).2.2)]):=by
 obtain⟨R,hR⟩:∃R,R=cQ b id size owner:=⟨_,rfl⟩;rw[<-hR];replace hR:=Xi hR;by_cases hc:bn b=0
 ·have bW:=db hc;have hid:=Bc owner;cases hq:bK b id with
  |none=>
   have cV:=kh b hz hc;have hf:=oy b id (by have:=bW.n8;omega) bW.rise;unfold pF at hf;rw[hq]at hf;replace hc:=Xi hc;replace hq:=Xi hq;refine pj func59 ntmps59 results59 ?_;have z1z:=Ln.mk (ls:=[]) (cV);refine aq ?_<;>intros;rw[show R=(Bok.zero,Pfx.zero,5) from (by rw[hR.out];unfold cQ;rw[af (by simpa using hc.out),hq.out])];exact dg
  |some p=>
   obtain⟨pre,post,hp,rfl⟩:=ly hq;have cV:=sN b pre post p hp hz hc;have p5:p∈b.pools:=by rw[hp];simp
   have zf:b.pools[pre.length]? =some p:=by rw[hp,XI (XA _),YE];rfl
   have nP:=bW.l32 p p5;have hvw:dk (br (az [.box 24 [.d (.v (.int .i64 b.tick)),.own 1 b.pools.length],.row 62 9 b.pools.length (fZ pre (aA p (.own 2 1)) post),.row 68 5 1 (ab (p.leases.map bc))]) 5) (fZ pre (aA p (.own 2 1)) post)=some (b.pools.map al):=by
    rw[hp];simp only[iz,aA,cI,br,az,eL,if_true,Yb,Xn,Xl];rfl
   have hf:=Cp b pre.length p b.pools.length (fZ pre (aA p (.own 2 1)) post) [.row 68 5 1 (ab (p.leases.map bc))] (.d (.v (.int .i64 b.tick))) zf bW.rise bW.n8 (by rw[x6,hp];simp;omega) hvw (by rw[iZ];rfl) (by simp only[aL,aQ,aF,Yq]) rfl;have SQ:=fun s=>Td p s nP;have SS:=fun l=>Te pre post p l b.pools.length 1 nP (ma (bW.mem p p5).2.1);have gM:=fun f=>oz bW.rise hp f;have aR:R=if dZ owner=false then (Bok.zero,Pfx.zero,3)else if (cy p (if size=0 then p.rule.usual else size)).2≠0 then (Bok.zero,Pfx.zero,(cy p (if size=0 then p.rule.usual else size)).2)else
    (⟨b.tick,pre++{p with leases:=iQ ⟨(cy p (if size=0 then p.rule.usual else size)).1,1,owner,0⟩ p.leases}::post⟩,(cy p (if size=0 then p.rule.usual else size)).1,0):=by
    rw[hR.out];unfold cQ;rw[af (by simpa using hc),hq];simp only;rw[gM]
   replace aR:=Xi aR;replace hc:=Xi hc;replace hq:=Xi hq;replace hp:=Xi hp;replace zf:=Xi zf;replace gM:=Xi gM;clear hvw p5;cases h0:size==0 with
   |true=>
    have e0:size=0:=by simpa using h0
    have aR:=aR.out;rw[ah e0]at aR;replace aR:=Xi aR;replace e0:=Xi e0;have HQ:=SS ⟨(cy p p.rule.usual).1,1,owner,0⟩;have PF:=SQ p.rule.usual;clear SS SQ;refine pj func59 ntmps59 results59 ?_;repeat' (first|(with_reducible refine And.intro ?_ ?_)|(with_reducible refine og (fun _=>?_) (fun _=>?_))|(with_reducible refine ef (fun _=>?_) (fun _=>?_))|(with_reducible refine jA aK)|simp -dsimp only[go_sem,seval, *,bj,aS,bc,aA,aP,fi,iz,h0]|((with_reducible refine jB ?_);simp -dsimp only[go_sem,seval,bj,aS,bc,aA,aP,fi,iz,h0];first|refine ei (by first|assumption|exact hid|exact PF) mR ?_|(refine eh gR ?_ ?_ ?_;(solve|(repeat(first|exact aO.refl _|exact aO.nil _|(refine aO.tup ?_)|(refine aO.agg ?_ rfl)|exact trivial|(refine And.intro ?_ ?_))));(solve|exact .inl rfl|exact .inr rfl)))|(refine fR [] (cV) ?_ ?_ ?_ ?_ ?_ ?_;(solve|rfl|simp only[go_sem,seval,bj,aA,aP]);(solve|rfl);(solve|decide);(solve|simp);(solve|simp only[go_sem,seval,bF,bj,aA,aP]))|(refine fR [5,6,8] (hf) ?_ ?_ ?_ ?_ ?_ ?_;(solve|rfl|simp only[go_sem,seval,aS,aA,aP]);(solve|rfl);(solve|decide);(solve|simp);(solve|simp only[go_sem,seval,bF,aS,aA,aP]))|(refine fR [6,8] (HQ) ?_ ?_ ?_ ?_ ?_ ?_;(solve|rfl|simp only[go_sem,seval,aS,bc,aA,aP]);(solve|rfl);(solve|decide);(solve|simp);(solve|simp only[go_sem,seval,bF,aS,bc,aA,aP]))|omega|exact decide_eq_true aa|exact aO.refl _)
    all_goals clear hf hid PF HQ cV hz
    all_goals first
     |(rw[show R=(Bok.zero,Pfx.zero,3) from (by rw[aR.out];grind)];(try simp only[Xn,Xl]);exact dg)
     |(rw[show R=(Bok.zero,Pfx.zero,(cy p p.rule.usual).2) from (by rw[aR.out];grind)];(try simp only[Xn,Xl]);exact dg)
     |(rw[show R=(⟨b.tick,pre++{p with leases:=iQ ⟨(cy p p.rule.usual).1,1,owner,0⟩ p.leases}::post⟩,(cy p p.rule.usual).1,0) from (by rw[aR.out];grind)];(try simp only[Xn,Xl]);exact dg)
   |false=>
    have e0:¬size=0:=by simpa using h0
    have aR:=aR.out;rw[af e0]at aR;replace aR:=Xi aR;replace e0:=Xi e0;have HQ:=SS ⟨(cy p size).1,1,owner,0⟩;have PF:=SQ size;clear SS SQ;refine pj func59 ntmps59 results59 ?_;repeat' (first|(with_reducible refine And.intro ?_ ?_)|(with_reducible refine og (fun _=>?_) (fun _=>?_))|(with_reducible refine ef (fun _=>?_) (fun _=>?_))|(with_reducible refine jA aK)|simp -dsimp only[go_sem,seval, *,bj,aS,bc,aA,aP,fi,iz,h0]|((with_reducible refine jB ?_);simp -dsimp only[go_sem,seval,bj,aS,bc,aA,aP,fi,iz,h0];first|refine ei (by first|assumption|exact hid|exact PF) mR ?_|(refine eh gR ?_ ?_ ?_;(solve|(repeat(first|exact aO.refl _|exact aO.nil _|(refine aO.tup ?_)|(refine aO.agg ?_ rfl)|exact trivial|(refine And.intro ?_ ?_))));(solve|exact .inl rfl|exact .inr rfl)))|(refine fR [] (cV) ?_ ?_ ?_ ?_ ?_ ?_;(solve|rfl|simp only[go_sem,seval,bj,aA,aP]);(solve|rfl);(solve|decide);(solve|simp);(solve|simp only[go_sem,seval,bF,bj,aA,aP]))|(refine fR [5,6,8] (hf) ?_ ?_ ?_ ?_ ?_ ?_;(solve|rfl|simp only[go_sem,seval,aS,aA,aP]);(solve|rfl);(solve|decide);(solve|simp);(solve|simp only[go_sem,seval,bF,aS,aA,aP]))|(refine fR [6,8] (HQ) ?_ ?_ ?_ ?_ ?_ ?_;(solve|rfl|simp only[go_sem,seval,aS,bc,aA,aP]);(solve|rfl);(solve|decide);(solve|simp);(solve|simp only[go_sem,seval,bF,aS,bc,aA,aP]))|omega|exact decide_eq_true aa|exact aO.refl _)
    all_goals clear hf hid PF HQ cV hz
    all_goals first
     |(rw[show R=(Bok.zero,Pfx.zero,3) from (by rw[aR.out];grind)];(try simp only[Xn,Xl]);exact dg)
     |(rw[show R=(Bok.zero,Pfx.zero,(cy p size).2) from (by rw[aR.out];grind)];(try simp only[Xn,Xl]);exact dg)
     |(rw[show R=(⟨b.tick,pre++{p with leases:=iQ ⟨(cy p size).1,1,owner,0⟩ p.leases}::post⟩,(cy p size).1,0) from (by rw[aR.out];grind)];(try simp only[Xn,Xl]);exact dg)
 ·have cV:=nJ b hz hc;have h1:(bn b !=0)=true:=by simpa using hc
  have hr:R=(Bok.zero,Pfx.zero,bn b):=by rw[hR.out];unfold cQ;rw[ah hc]
  rw[hr];replace hr:=Xi hr;refine pj func59 ntmps59 results59 ?_;refine aq ?_<;>intros;exact dg
end Go.Proofs.YtmicljipaiohkaaGreat
