/- DeskStores: its statement, for every input, out of its walk. (texts of this work, joined) -/
import Derived.Test.YtojojebildofnaaGreatDoorZHDeskStores4
import Derived.Test.YtojojebildofnaaGreatDoorZHDeskStoresK
import Derived.Lib.Walk
import Derived.Lib.Builder
import Derived.Lib.AppendStr
import Derived.Lib.UnsafeStr
import Derived.WalkKit
import Derived.Shelf.RegionOpenPlain
import Derived.Laws.Externs
import Derived.KernelRfl
import Derived.Outline
import Derived.Lib.ItoaNum
import Derived.Lib.Join
import Derived.SizedLaws
import Derived.Test.YtojojebildofnaaGreatDoorCards
import Derived.Test.YtojojebildofnaaGreatDoorTie
import Derived.Stop.LaidErr
import Derived.Lib.LaidTab
import Derived.MakeChecks
import Derived.LaidMore
import Derived.LaidHandle
import Derived.SevenTiedAt
import Derived.Test.YtojojebildofnaaGreatDoorRows
import Derived.ProofKit
import Derived.OpenShut
import Derived.ShutString
import Derived.ChangeOld
import Derived.Below
set_option linter.unusedSimpArgs false
set_option linter.unusedVariables false
set_option maxRecDepth 100000
set_option maxHeartbeats 16000000
namespace Go.Proofs.YtojojebildofnaaGreatDoor
open Go Go.RowKit Go.Proofs.Tryz
open Go.Lib renaming hid → Xj, byteCells → Zi, strCells → Zp, join → G', cell_of_heap → Y'
open _root_.List renaming getElem?_eq_getElem → Xk, mem_of_getElem? → Xl, map_cons → Xm, getElem?_eq_some_iff → Xn, map_append → Xo, length_take → Xp, take_length → Xq, map_nil → Xr, length_append → Xv, length_cons → Xx, getElem?_map → Xy, all_eq_true → XA, length_map → XB, getD_eq_getElem?_getD → XC, pairwise_iff_getElem → XF, take_of_length_le → XG, getElem?_append_right → XH, findIdx?_eq_some_iff_getElem → XI, mem_map → XN, setIfInBounds_toArray → XO, getElem?_take_of_lt → XP, set_cons_zero → XQ, getElem?_eq_none → XR, length_drop → XS, any_eq_true → XU, append_assoc → XV, length_nil → XX, replicate → XY, set_cons_succ → XZ, mem_append → X0, mem_cons → X2, mem_iff_getElem → X3, eq_nil_of_length_eq_zero → X4, getElem?_append_left → X5, mem_singleton → X7, range → X8, cons_append → X9, getElem_of_mem → Ya, nil_append → Yb, mem_of_mem_drop → Yc, mem_of_mem_take → Yd, getElem_mem → Ye, take → Yf, any_eq_false → Yh, append_nil → Yi, ext_getElem? → Yj, getElem?_drop → Yl, take_append_of_le_length → Ym, findIdx?_eq_none_iff → Yn, find?_eq_none → Yr, set_append_right → Yu, getElem?_cons_succ → Yw, pairwise_cons → YC, mem_of_find?_eq_some → YE, size_toArray → YG, eraseIdx_eq_take_drop_succ → YI, take_append_drop → YK, flatten_cons → YL, flatMap_append → YN, foldl_cons → YO, drop_eq_getElem_cons → YR, mem_range → YS, pairwise_append → YV, all_eq_false → YW, length_set → YX, filter_append → YY, mem_cons_of_mem → Y1, map_congr_left → Y4, filter_eq_self → Y5, toList_toArray → Y6, pairwise_map → Y8, mem_or_eq_of_mem_set → Y9, take_zero → Zb, drop_length → Zc, mem_map_of_mem → Zd, length_filter_le → Ze, take_succ_eq_append_getElem → Zf, find?_eq_some_iff_getElem → Zk, foldl_append → Zm, mem_iff_getElem? → Zn, find?_some → Zs, filter_filter → Zt, getElem?_take → Zu, flatMap_cons → Zy, filter_eq_nil_iff → Zz, mem_filter → ZB, flatMap_nil → ZE, filter_cons → ZF, map_take → ZI, getElem_take → ZP, mem_flatMap → ZY, contains_iff_mem → Z3, all_append → Z5, map_map → Z6, map_set → Z7, filter_congr → J', getElem?_set → L', length → O', getElem?_set_ne → Q', length_eraseIdx → S', extract_eq_take_drop → Z', nodup_append → _l, drop → _C
open Go.World renaming size_alloc → Xs, heap_drewN → Xu, size_drew → Xw, cell? → YU, cell?_of_block → Zw, setRow → ZU, ownsRow_nil → I'
open _root_.Bool renaming and_eq_true → Xt, eq_iff_iff → Yk, and_self → Yq, true_and → Ys, and_true → YA, false_eq_true → YB, eq_false_iff → YD, or_eq_false_iff → Zx, not_eq_true' → ZO, and_eq_false_iff → Z2, false_or → p', not_true → H', and_assoc → _n
open _root_.Nat renaming le_refl → Xz, zero_le → XD, zero_add → XE, reduceEqDiff → XK, reduceAdd → XL, lt_or_ge → XM, add_zero → XT, mul_le_mul_right → Yt, lt_of_lt_of_le → Yx, le_trans → Yy, sub_self → YF, not_lt_zero → YH, le_of_eq → YZ, lt_trichotomy → Y7, add_assoc → Zh, sub_zero → Zj, min_self → Zr, add_mul → ZC, eq_zero_or_pos → ZG, zero_lt_succ → ZX, min → Z4, reduceLT → Z8, min_def → P', le_of_lt → V', lt_or_gt_of_ne → _i
open _root_.Option renaming map_eq_some_iff → XJ, some → XW, map_some → Yg, getD_some → Yp, isSome_some → YM, bind_some → Y0, isSome_none → Zg, isSome_iff_exists → Zo, map_none → Zq
open _root_.Array renaming getElem?_toList → X6, getElem?_eq_none → Yo, getElem?_modify → Y3, replicate → Za, length_toList → ZR, mem_of_getElem? → Z1, ext' → D', toList_map → U', toList_append → _c, eq_empty_of_size_eq_zero → _s, toList_extract → _t, range → _v
open _root_.Int renaming dvd_of_emod_eq_zero → YJ, lt_irrefl → ZJ, emod_eq_zero_of_dvd → ZQ, le_refl → ZW, fdiv_eq_ediv_of_nonneg → ZZ, toNat_of_nonneg → A', dvd_trans → _d, pow_succ → _y
open _root_.ByteArray renaming size_extract → YT, mk → Y2, size_append → ZD, ext → ZV, data_append → Z0, data_extract → _p, append_assoc → _A
theorem a6s {p:Prop}(h:p:=by
 exact⟨hk.1,fun q hq=>by have:=hk.2 q hq;omega⟩):p:=h
def mF (b:Bok):Prop:=b.pools.length<=1000000000/\∀p∈b.pools,p.leases.length<=1000000000
theorem GS (b:Bok)(hs:mF b):ai prog 28 [.agg (bq b),.agg (bq b)] (.v (.bool true)):=by
 have hl:=hs.1;refine pj func28 ntmps28 results28 ?_;refine ap ?_<;>intros;refine bf ag am b.pools (fun _=>True) (fun k=>[(5,.d (.v (.int .i64 k))),(4,.d (.v (.bool false))),(3,.ptr 1 0),(2,.ptr 0 0)]) (fun _=>[.box 30 ((bq b).map .d),.box 30 ((bq b).map .d)]) trivial (wf) ?_ ?_
 ·intro k p hp hk _ C hC;have eo:(k:Int) < (b.pools.length:Int):=aa;have db:=wi k aa;have jC:=hs.2 p (Xl hp);refine ap ?_<;>intros;refine bf ag am p.leases (fun _=>True) (fun j=>[(8,.d (.v (.int .i64 j))),(7,.ptr 3 0),(6,.ptr 2 0),(5,.d (.v (.int .i64 k))),(4,.d (.v (.bool false))),(3,.ptr 1 0),(2,.ptr 0 0)]) (fun _=>[.box 30 ((bq b).map .d),.box 30 ((bq b).map .d),.box 83 ((an p).map .d),.box 83 ((an p).map .d)]) trivial (wf) ?_ ?_
  ·intro j l ro hj _ C hC;have lz:(j:Int) < (p.leases.length:Int):=aa;have nI:=wi j aa;refine ap ?_<;>intros;exact hC _ _ trivial (wf)
  ·intro _ C;refine ap ?_<;>intros;exact hC _ _ trivial (wf)
 ·intro _ C;exact bc
@[go_sem] def Q9:Rul:=⟨8,16,12,3⟩
theorem UH:ai prog 56 [] (.agg (xj Q9)):=by
 refine pj func56 ntmps56 results56 ?_;exact bc
theorem bZ:mF Bok.zero:=⟨XD _,fun p hp=>by simp[Bok.zero]at hp⟩
theorem oA {b:Bok}(h:BookOK b):b.pools.length<=8/\∀p∈b.pools,p.leases.length<=32:=⟨h.n8,h.l32⟩
theorem GT (p:Pol)(ps:List Pol):(mz p ps).length=ps.length+1:=by
 have:=qY (fun x:Pol=>x.id) p.id ps;unfold mz;simp;omega
theorem GU {p q:Pol}{ps:List Pol}(h:q∈mz p ps):q=p\/q∈ps:=by
 unfold mz at h;simp only[X0,X2]at h;rcases h with h|h|h
 ·exact .inr (Yd h)
 ·exact .inl h
 ·exact .inr (Yc h)
theorem GV (l:Lse)(ls:List Lse):(iX l ls).length=ls.length+1:=by
 have:=qY (fun x:Lse=>x.at_.at_) l.at_.at_ ls;unfold iX;simp;omega
theorem CK (p:Pol)(i:Nat)(t:Int):(kV p i t).length<=p.leases.length:=by
 unfold kV;split
 ·rw[S'];split<;>omega
 ·split
  ·rw[YX];exact Xz _
  ·exact Xz _
theorem pb {b:Bok}{id:Int}{f:Pol->Pol}(h:b.pools.length<=8)(h2:∀p∈b.pools,p.leases.length<=32/\(f p).leases.length<=33):(t6 b id f).pools.length<=8/\∀p∈(t6 b id f).pools,p.leases.length<=33:=by
 unfold t6;refine⟨by simpa using h,fun p hp=>?_⟩;obtain⟨q,hq,rfl⟩:=XN.1 hp;split
 ·exact(h2 q hq).2
 ·have:=(h2 q hq).1;omega
theorem CM {b:Bok}{id:Int}{f:Pol->Pol}(h:(t6 b id f).pools.length<=8/\∀p∈(t6 b id f).pools,p.leases.length<=33):mF (t6 b id f):=⟨by have:=h.1;omega,fun q hq=>by have:=h.2 q hq;omega⟩
theorem NB {b:Bok}{t:Int}{p:Pol}(h:b.pools.length<=8/\∀p∈b.pools,p.leases.length<=33)(hp:p.leases=[]):mF ⟨t,mz p b.pools⟩:=⟨by simp only[GT];omega,fun q hq=>by
 rcases GU hq with rfl|hq
 ·rw[hp];exact XD _
 ·have:=h.2 q hq;omega⟩
theorem GW (b:Bok)(id:Int)(root:Pfx)(r:Rul):mF (gu b id root r).1:=by
 unfold gu;split
 ·exact bZ
 ·rename_i hc;have hk:=oA (dJ (by simpa using hc));split
  ·exact bZ
  ·refine⟨by simp only[GT];omega,fun p hp=>?_⟩;rcases GU hp with rfl|hp
   ·exact XD _
   ·have:=hk.2 p hp;omega
theorem GY (b:Bok)(id up size:Int)(r:Rul):mF (gx b id up size r).1:=by
 unfold gx;split
 ·exact bZ
 ·rename_i hc;have hk:=oA (dJ (by simpa using hc));split
  ·exact bZ
  ·split
   ·exact bZ
   ·split
    ·exact bZ
    ·split
     ·exact bZ
     ·split
      ·exact bZ
      ·split
       ·exact bZ
       ·exact NB (pb hk.1 (fun q hq=>⟨hk.2 q hq,by simp only[GV];have:=hk.2 q hq;omega⟩)) rfl
theorem wP (b:Bok)(id size owner:Int):mF (cS b id size owner).1:=by
 unfold cS;split
 ·exact bZ
 ·rename_i hc;have hk:=oA (dJ (by simpa using hc));split
  ·exact bZ
  ·split
   ·exact bZ
   ·rename_i p _ _;generalize cC p (if size=0 then p.rule.usual else size)=F;simp only;split
    ·exact bZ
    ·exact CM (pb hk.1 (fun q hq=>⟨hk.2 q hq,by simp only[GV];have:=hk.2 q hq;omega⟩))
theorem wQ (b:Bok)(id:Int)(at_:Pfx):mF (fN b id at_).1:=by
 unfold fN;split
 ·exact bZ
 ·rename_i hc;have hk:=oA (dJ (by simpa using hc));split
  ·exact bZ
  ·split
   ·exact bZ
   ·rename_i i _;exact CM (pb hk.1 (fun q hq=>⟨hk.2 q hq,by have:=hk.2 q hq;have:=CK q i b.tick;simp only;omega⟩))
theorem D4 (b:Bok)(id:Int):mF (fO b id).1:=by
 unfold fO;split
 ·exact bZ
 ·rename_i hc;have hk:=oA (dJ (by simpa using hc));split
  ·exact bZ
  ·split
   ·exact bZ
   ·rename_i p _ _;have gU:(jl b p).length<=8/\∀q∈jl b p,q.leases.length<=33:=by
     unfold jl;split
     ·exact a6s
     ·split
      ·rename_i u _ _ i _;exact pb (b:=b) (id:=u.id) (f:=fun q=>{q with leases:=kV q i b.tick}) hk.1 (fun q hq=>⟨hk.2 q hq,by have:=hk.2 q hq;have:=CK q i b.tick;simp only;omega⟩)
      ·exact a6s
    exact⟨by have:=Ze (fun q:Pol=>!(q.id==id)) (jl b p);simp only;omega,fun q hq=>by have:=gU.2 q (ZB.1 hq).1;omega⟩
theorem GZ (b:Bok)(n:Int):mF (jU b n).1:=by
 unfold jU;split
 ·exact bZ
 ·rename_i hc;have hk:=oA (dJ (by simpa using hc));split
  ·exact bZ
  ·refine⟨by simp only[XB];omega,fun q hq=>?_⟩;obtain⟨p,hp,rfl⟩:=XN.1 hq;have:=hk.2 p hp;have:=Ze (fun l=>!kW (b.tick+n) l) p.leases;simp only[fB];omega
def Jk (s:Sbn):Prop:=s.faces.length<=1000000000/\∀f∈s.faces,f.addrs.length<=1000000000
def pc (v:Vpc):Prop:=v.ranges.length<=1000000000/\v.subs.length<=1000000000/\∀s∈v.subs,Jk s
theorem bG:pc Vpc.zero:=⟨XD _,XD _,fun s h=>by simp[Vpc.zero]at h⟩
theorem re {v:Vpc}(h:VpcOK v):∀s∈v.subs,Jk s:=fun s hs=>⟨by have:=(h.n8 s hs).1;omega,fun f hf=>by have:=(h.n8 s hs).2 f hf;omega⟩
theorem sN {v:Vpc}(h:VpcOK v){i:Nat}{s:Sbn}(hs:Jk s):pc {v with subs:=v.subs.set i s}:=⟨by have:=h.n4;show v.ranges.length<=_;omega,by have:=h.n6;show (v.subs.set i s).length<=_;rw[YX];omega,fun t ht=>by
 rcases Y9 ht with ht|rfl
 ·exact re h t ht
 ·exact hs⟩
theorem G0 (v:Vpc)(p:Pfx):pc (d6 v p).1:=by
 unfold d6;split
 ·exact bG
 ·rename_i hc;have hk:=aY (by simpa using hc);split
  ·exact bG
  ·split
   ·exact bG
   ·exact⟨by have:=hk.n4;show (v.ranges.eraseIdx _).length<=_;rw[S'];split<;>omega,by have:=hk.n6;show v.subs.length<=_;omega,fun s hs=>re hk s hs⟩
theorem Jl (v:Vpc)(id:Int)(p:Pfx):pc (pD v id p).1:=by
 unfold pD;split
 ·exact bG
 ·rename_i hc;have hk:=aY (by simpa using hc);split
  ·exact bG
  ·refine⟨by have:=hk.n4;show v.ranges.length<=_;omega,by have:=hk.n6;show (dv _ _ v.subs).length<=_;rw[fL];omega,fun s hs=>?_⟩;rcases og.1 hs with rfl|hs
   ·exact⟨XD _,fun f hf=>by simp at hf⟩
   ·exact re hk s hs
theorem D5 (v:Vpc)(id:Int):pc (fR v id).1:=by
 unfold fR;split
 ·exact bG
 ·rename_i hc;have hk:=aY (by simpa using hc);split
  ·exact bG
  ·split
   ·exact bG
   ·exact⟨by have:=hk.n4;show v.ranges.length<=_;omega,by have:=hk.n6;show (v.subs.eraseIdx _).length<=_;rw[S'];split<;>omega,fun s hs=>re hk s (List.mem_of_mem_eraseIdx hs)⟩
theorem G1 (v:Vpc)(sub id:Int):pc (iu v sub id).1:=by
 unfold iu;split
 ·exact bG
 ·rename_i hc;have hk:=aY (by simpa using hc);split
  ·exact bG
  ·split
   ·exact bG
   ·rename_i s hs;have h8:=hk.n8 s (Xl hs);split
    ·exact bG
    ·refine sN hk ⟨by show (dv _ _ s.faces).length<=_;rw[fL];omega,fun f hf=>?_⟩;rcases og.1 hf with rfl|hf
     ·show 1<=1000000000;omega
     ·have:=h8.2 f hf;omega
theorem Bj (v:Vpc)(sub id:Int):pc (eh v sub id).1:=by
 unfold eh;split
 ·exact bG
 ·rename_i hc;have hk:=aY (by simpa using hc);split
  ·exact bG
  ·split
   ·exact bG
   ·rename_i s hs;have h8:=hk.n8 s (Xl hs);split
    ·exact bG
    ·exact sN hk ⟨by show (s.faces.eraseIdx _).length<=_;rw[S'];split<;>omega,fun f hf=>by have:=h8.2 f (List.mem_of_mem_eraseIdx hf);omega⟩
theorem G3 (v:Vpc)(sub id:Int):pc (gQ v sub id).1:=by
 unfold gQ;split
 ·exact bG
 ·rename_i hc;have hk:=aY (by simpa using hc);split
  ·exact bG
  ·split
   ·exact bG
   ·rename_i s hs;have h8:=hk.n8 s (Xl hs);split
    ·exact bG
    ·split
     ·exact bG
     ·rename_i f hf;have gX:=h8.2 f (Xl hf);split
      ·exact bG
      ·split
       ·exact bG
       ·refine sN hk ⟨by show (s.faces.set _ _).length<=_;rw[YX];omega,fun g hg=>?_⟩;rcases Y9 hg with hg|rfl
        ·have:=h8.2 g hg;omega
        ·show (dv _ _ f.addrs).length<=_;rw[fL];omega
theorem a4z {p:Prop}(h:p:=by
 intro hI C;replace hI:=Xj hI;refine ap ?_<;>intros;exact tV (DP hI.out).symm):p:=h
theorem a4M {p:Prop}(h:p:=by
 rename_i h1;exact hC _ _ (eC hp hI.out (by simpa using h1)) (wf)):p:=h
theorem a4U {p:Prop}(h:p:=by
 rename_i h1;exact tV (y9 hp (by simpa using h1) hI.out).symm):p:=h
theorem iF (n:Net)(id:Int)(hl:n.vpcs.length<=1000000000):ai prog 39 [.agg (cQ n),.v (.int .i64 id)] (.v (.int .i64 (cv (fun v=>v.id==id) n.vpcs))):=by
 refine pj func39 ntmps39 results39 ?_;refine ap ?_<;>intros;refine bf ag am n.vpcs (fun k=>(n.vpcs.take k).all (fun v=>!(v.id==id))=true) (fun k=>[(5,.d (.v (.int .i64 k))),(4,.d (.v (.int .i64 0))),(2,.ptr 0 0),(1,.d (.v (.int .i64 id)))]) (fun _=>[.box 34 ((cQ n).map .d)]) rfl (wf) ?_ ?_
 ·intro k p hp hk hI C hC;have eo:(k:Int) < (n.vpcs.length:Int):=aa;have db:=wi k aa;replace hI:=Xj hI;refine AN ?_ ?_<;>intros
  ·exact a4U
  ·exact a4M
 ·exact a4z
theorem kY (n:Net)(id:Int):cv (fun v=>v.id==id) n.vpcs=match fl n id with|some i=>(i:Int)|none=> -1:=rfl
def kJ (n:Net)(a b:Int):Bool:=n.links.any fun y=>decide (y=fY a b)
theorem vH (n:Net)(a b:Int)(hl:n.links.length<=1000000000):ai prog 140 [.agg (cQ n),.v (.int .i64 a),.v (.int .i64 b)] (.v (.bool (kJ n a b))):=by
 obtain⟨R,hR⟩:∃R,R=kJ n a b:=⟨_,rfl⟩;rw[<-hR];replace hR:=Xj hR;refine pj func140 ntmps140 results140 ?_;refine ap ?_<;>intros;refine bf ag am n.links (fun k=>(n.links.take k).all (fun y=>!decide (y=fY a b))=true) (fun k=>[(7,.d (.v (.int .i64 k))),(6,.d (.v (.bool false))),(3,.ptr 0 0),(2,.d (.v (.int .i64 b))),(1,.d (.v (.int .i64 a)))]) (fun _=>[.box 34 ((cQ n).map .d)]) rfl (wf) ?_ ?_
 ·intro k p hp hk hI C hC;have eo:(k:Int) < (n.links.length:Int):=aa;have db:=wi k aa;have he:([p.a,p.b]==[if b < a then b else a,if a < b then b else a])=decide (p=fY a b):=zG p (fY a b);have J6:decide (p=fY a b)=true->R=true:=fun h=>by rw[hR.out];exact XU.2 ⟨p,Xl hp,h⟩
  have cg:decide (p=fY a b)=false->(n.links.take (k+1)).all (fun y=>!decide (y=fY a b))=true:=fun h=>eC hp hI (by simpa using h);generalize decide (p=fY a b)=t at*;replace hI:=Xj hI;replace J6:=Xj J6;replace cg:=Xj cg;cases t with
  |true=>
   have hr:=J6.out rfl;rw[hr];replace hr:=Xj hr;exact bc;all_goals exact aP.refl _
  |false=>
   refine ap ?_<;>intros;exact hC _ _ (cg.out rfl) (wf)
 ·intro hI C;have hr:R=false:=by
   rw[hR.out];unfold kJ;rw[Xq,XA]at hI;rw[Yh];intro y hy;have:=hI y hy;simpa using this
  rw[hr];replace hr:=Xj hr;replace hI:=Xj hI;exact bc;all_goals exact aP.refl _
theorem G4 (v w:Vpc)(hv:v.ranges.length<=1000000000)(hw:w.ranges.length<=1000000000):ai prog 75 [.agg (ax v),.agg (ax w)] (.v (.bool (dR v w))):=by
 obtain⟨R,hR⟩:∃R,R=dR v w:=⟨_,rfl⟩;rw[<-hR];replace hR:=Xj hR;refine pj func75 ntmps75 results75 ?_;refine ap ?_<;>intros;refine bf ag am v.ranges (fun k=>(v.ranges.take k).all (fun r=>!(w.ranges.any fun q=>r.at_.meets q.at_))=true) (fun k=>[(5,.d (.v (.int .i64 k))),(4,.d (.v (.bool false))),(3,.ptr 1 0),(2,.ptr 0 0)]) (fun _=>[.box 88 ((ax v).map .d),.box 88 ((ax w).map .d)]) rfl (wf) ?_ ?_
 ·intro k r hr0 hk hI C hC;have eo:(k:Int) < (v.ranges.length:Int):=aa;have db:=wi k aa;have Bq:(w.ranges.any fun q=>r.at_.meets q.at_)=false->(v.ranges.take (k+1)).all (fun r=>!(w.ranges.any fun q=>r.at_.meets q.at_))=true:=fun h=>eC hr0 hI (by rw[h];rfl);have J6:(w.ranges.any fun q=>r.at_.meets q.at_)=true->R=true:=fun h=>by rw[hR.out];exact XU.2 ⟨r,Xl hr0,h⟩
  replace hI:=Xj hI;replace Bq:=Xj Bq;replace J6:=Xj J6;refine ap ?_<;>intros;refine bf ag am w.ranges (fun j=>(w.ranges.take j).all (fun q=>!(r.at_.meets q.at_))=true) (fun j=>[(6,.d (.v (.int .i64 j))),(5,.d (.v (.int .i64 k))),(4,.d (.v (.bool false))),(3,.ptr 1 0),(2,.ptr 0 0)]) (fun _=>[.box 88 ((ax v).map .d),.box 88 ((ax w).map .d)]) rfl (wf) ?_ ?_
  ·intro j q hq hj hJ C2 j6;have lz:(j:Int) < (w.ranges.length:Int):=aa;have nI:=wi j aa;have pL:=su r.at_ q.at_;rw[fI]at pL;cases b:r.at_.meets q.at_ with
   |true=>
    have hr:=J6.out (XU.2 ⟨q,Xl hq,b⟩);rw[b]at pL;rw[hr];replace hr:=Xj hr;replace hJ:=Xj hJ;exact bc;all_goals exact aP.refl _
   |false=>
    rw[b]at pL;have hn:=eC hq hJ (by rw[b];rfl);replace hn:=Xj hn;replace hJ:=Xj hJ;refine ap ?_<;>intros;exact j6 _ _ hn.out (wf)
  ·intro hJ C2;have hn:=Bq.out (by
    rw[Xq,XA]at hJ;rw[Yh];intro q hq;have:=hJ q hq;simpa using this)
   replace hJ:=Xj hJ;replace hn:=Xj hn;refine ap ?_<;>intros;exact hC _ _ hn.out (wf)
 ·intro hI C;have hr:R=false:=by
   rw[hR.out];rw[Xq,XA]at hI;unfold dR;rw[Yh];intro y hy;have:=hI y hy;simpa using this
  rw[hr];replace hr:=Xj hr;replace hI:=Xj hI;exact bc;all_goals exact aP.refl _
def wR (lk:Nat->Nat->Bool)(i k:Nat)(l:List Bool):List Bool:=l.set k (l.getD k false||(l.getD i false&&lk i k))
def sO (lk:Nat->Nat->Bool)(l:List Bool)(i:Nat):Nat->List Bool
 |0=>l
 |k+1=>wR lk i k (sO lk l i k)
def jz (lk:Nat->Nat->Bool)(l:List Bool):Nat->List Bool
 |0=>l
 |i+1=>sO lk (jz lk l i) i l.length
def dU (lk:Nat->Nat->Bool)(l:List Bool):Nat->List Bool
 |0=>l
 |t+1=>jz lk (dU lk l t) l.length
def G5:List Bool->List Bool->Prop
 |[],[]=>True
 |a::l,b::m=>(a=true->b=true)/\G5 l m
 |_,_=>False
theorem qt:∀l,G5 l l
 |[]=>trivial
 |_::l=>⟨id,qt l⟩
theorem rf:∀{l m k:List Bool},G5 l m->G5 m k->G5 l k
 |[],[],[],_,_=>trivial
 |_::_,_::_,_::_,⟨h1,h2⟩,⟨g1,g2⟩=>⟨fun h=>g1 (h1 h),rf h2 g2⟩
theorem qu:∀{l m:List Bool},G5 l m->G5 m l->l=m
 |[],[],_,_=>rfl
 |a::l,b::m,⟨h1,h2⟩,⟨g1,g2⟩=>by
  rw[qu h2 g2];cases a<;>cases b<;>simp_all
theorem ue:∀{l m:List Bool},G5 l m->m.length=l.length
 |[],[],_=>rfl
 |_::_,_::_,⟨_,h⟩=>by simp[ue h]
theorem KX:∀{l m:List Bool},G5 l m->∀{k},l.getD k false=true->m.getD k false=true
 |[],[],_,_,h=>h
 |_::_,_::_,⟨h1,_⟩,0,h=>by simpa using h1 (by simpa using h)
 |_::_,_::_,⟨_,h2⟩,k+1,h=>by simpa using KX h2 (k:=k) (by simpa using h)
theorem CP:∀{l m:List Bool},G5 l m->l=m\/l.count true < m.count true
 |[],[],_=> .inl rfl
 |a::l,b::m,⟨h1,h2⟩=>by
  rcases CP h2 with rfl|h
  ·cases a<;>cases b<;>simp_all
  ·right;cases a<;>cases b<;>simp_all<;>omega
theorem KY:∀(l:List Bool) (k:Nat) (b:Bool),G5 l (l.set k (l.getD k false||b))
 |[],_,_=>by simp[G5]
 |a::l,0,b=>by simp only[XQ,List.getD_cons_zero];exact⟨fun h=>by simp[h],qt l⟩
 |a::l,k+1,b=>by simp only[XZ,List.getD_cons_succ];exact⟨id,KY l k b⟩
section
variable (lk:Nat->Nat->Bool)
theorem Ra (i k:Nat)(l:List Bool):G5 l (wR lk i k l):=KY l k _
theorem pf (l:List Bool)(i:Nat):∀k d,G5 (sO lk l i k) (sO lk l i (k+d))
 |_,0=>qt _
 |k,d+1=>rf (pf l i k d) (Ra lk i (k+d) _)
theorem kZ (l:List Bool):∀i d,G5 (jz lk l i) (jz lk l (i+d))
 |_,0=>qt _
 |i,d+1=>rf (kZ l i d) (by have:=pf lk (jz lk l (i+d)) (i+d) 0 l.length;rw[XE]at this;exact this)
theorem G6 (l:List Bool)(i:Nat):(jz lk l i).length=l.length:=ue (by have:=kZ lk l 0 i;rw[XE]at this;exact this)
theorem G7 (l:List Bool)(i k:Nat):(sO lk l i k).length=l.length:=ue (by have:=pf lk l i 0 k;rw[XE]at this;exact this)
theorem ri (l:List Bool):∀t,G5 l (dU lk l t)
 |0=>qt _
 |t+1=>rf (ri l t) (by have h:=ue (ri l t);have:=kZ lk (dU lk l t) 0 l.length;rw[XE]at this;exact this)
theorem qv (l:List Bool)(t:Nat):(dU lk l t).length=l.length:=ue (ri lk l t)
theorem Rb {l:List Bool}(h:jz lk l l.length=l){i k:Nat}(hi:i < l.length)(hk:k < l.length)(h1:l.getD i false=true)(h2:lk i k=true):l.getD k false=true:=by
 have a1:=kZ lk l 0 i;have a2:=kZ lk l i (l.length - i);rw[XE]at a1;rw[show i+(l.length - i)=l.length by omega,h]at a2;have e1:jz lk l i=l:=qu a2 a1;have a3:=kZ lk l i 1;have a4:=kZ lk l (i+1) (l.length - (i+1));rw[show i+1+(l.length - (i+1))=l.length by omega,h]at a4;have e2:jz lk l (i+1)=l:=by rw[e1]at a3;exact qu a4 a3
 simp only[jz,e1]at e2;have b1:=pf lk l i 0 k;have b2:=pf lk l i k (l.length - k);rw[XE]at b1;rw[show k+(l.length - k)=l.length by omega,e2]at b2;have e3:sO lk l i k=l:=qu b2 b1;have b3:=pf lk l i k 1;have b4:=pf lk l i (k+1) (l.length - (k+1));rw[show k+1+(l.length - (k+1))=l.length by omega,e2]at b4;have e4:sO lk l i (k+1)=l:=by rw[e3]at b3;exact qu b4 b3
 simp only[sO,e3,wR]at e4;rw[<-e4,h1,h2];simp[XC,hk]
theorem CQ (l:List Bool)(hc:0 < l.count true):∀t,jz lk (dU lk l t) l.length=dU lk l t\/t < (dU lk l t).count true
 |0=> .inr hc
 |t+1=>by
  rcases CQ l hc t with h|h
  ·left;simp only[dU,h]
  ·have hl:=qv lk l t;have hle:=kZ lk (dU lk l t) 0 l.length;rw[XE]at hle;rcases CP (show G5 (dU lk l t) (dU lk l (t+1)) from hle)with he|he
   ·left;have e2:dU lk l (t+1)=jz lk (dU lk l t) l.length:=rfl;rw[<-he];rw[<-e2,<-he]
   ·right;omega
theorem D6 (l:List Bool)(hc:0 < l.count true){i k:Nat}(hi:i < l.length)(hk:k < l.length)(h1:(dU lk l l.length).getD i false=true)(h2:lk i k=true):(dU lk l l.length).getD k false=true:=by
 have hl:=qv lk l l.length;rcases CQ lk l hc l.length with h|h
 ·exact Rb lk (by rw[hl];exact h) (by rw[hl];exact hi) (by rw[hl];exact hk) h1 h2
 ·have:=List.count_le_length (a:=true) (l:=dU lk l l.length);omega
theorem Rc {G:Nat->Prop}(hG:∀i k,G i->lk i k=true->G k){l:List Bool}(h:∀k,l.getD k false=true->G k)(i k:Nat):∀j,(wR lk i k l).getD j false=true->G j:=by
 intro j hj;unfold wR at hj;rw[XC,L']at hj;split at hj
 ·rename_i e;subst e;split at hj
  ·simp only[Yp,Bool.or_eq_true,Xt]at hj;rcases hj with hj|hj
   ·exact h _ hj
   ·exact hG i k (h _ hj.1) hj.2
  ·simp at hj
 ·exact h j (by rw[XC];exact hj)
theorem KZ {G:Nat->Prop}(hG:∀i k,G i->lk i k=true->G k){l:List Bool}(h:∀k,l.getD k false=true->G k)(i:Nat):∀k j,(sO lk l i k).getD j false=true->G j
 |0=>h
 |k+1=>Rc lk hG (KZ hG h i k) i k
theorem G8 {G:Nat->Prop}(hG:∀i k,G i->lk i k=true->G k){l:List Bool}(h:∀k,l.getD k false=true->G k):∀i j,(jz lk l i).getD j false=true->G j
 |0=>h
 |i+1=>KZ lk hG (G8 hG h i) i _
theorem CR {G:Nat->Prop}(hG:∀i k,G i->lk i k=true->G k){l:List Bool}(h:∀k,l.getD k false=true->G k):∀t j,(dU lk l t).getD j false=true->G j
 |0=>h
 |t+1=>G8 lk hG (CR hG h t) _
end
def fW (L:List Lnk):Int->Int:=L.foldl gr (fun x=>x)
theorem Jm {F:Int->Int}{x y:Int}(h:F x=F y)(l:Lnk):gr F l x=gr F l y:=by unfold gr;rw[h]
theorem zP {x y:Int}:∀(L:List Lnk) (F:Int->Int),F x=F y->L.foldl gr F x=L.foldl gr F y
 |[],_,h=>h
 |l::L,F,h=>zP L _ (Jm h l)
theorem zQ {l:Lnk}:∀(L:List Lnk) (F:Int->Int),l∈L->L.foldl gr F l.a=L.foldl gr F l.b
 |m::L,F,h=>by
  rcases X2.1 h with rfl|h
  ·refine zP L _ ?_;unfold gr;rw[aj rfl];split<;>rfl
  ·exact zQ L _ h
theorem zR {L:List Lnk}{l:Lnk}(h:l∈L):fW L l.a=fW L l.b:=zQ L _ h
theorem wS {S:Int->Prop}:∀(L:List Lnk) (F:Int->Int),(∀l∈L,S l.a↔S l.b)->(∀x y,F x=F y->(S x↔S y))->∀x y,L.foldl gr F x=L.foldl gr F y->(S x↔S y)
 |[],_,_,hF,x,y,h=>hF x y h
 |l::L,F,hL,hF,x,y,h=>by
  refine wS L (gr F l) (fun m hm=>hL m (Y1 _ hm)) (fun u v Sy=>?_) x y h;have hl:=hL l ah;unfold gr at Sy;by_cases h1:F u=F l.b
  ·by_cases h2:F v=F l.b
   ·exact hF u v (h1.trans h2.symm)
   ·rw[aj h1,af h2]at Sy;exact(hF u l.b h1).trans (hl.symm.trans (hF l.a v Sy))
  ·by_cases h2:F v=F l.b
   ·rw[af h1,aj h2]at Sy;exact(hF u l.a Sy).trans (hl.trans (hF v l.b h2).symm)
   ·rw[af h1,af h2]at Sy;exact hF u v Sy
theorem wT {S:Int->Prop}{L:List Lnk}(hL:∀l∈L,S l.a↔S l.b){x y:Int}(h:fW L x=fW L y):S x↔S y:=
 wS L _ hL (fun x y h=>by rw[h]) x y h
theorem Jn {L M:List Lnk}(h:∀l,l∈L↔l∈M){x y:Int}:fW L x=fW L y↔fW M x=fW M y:=by
 have key:∀{L M:List Lnk},(∀l,l∈L↔l∈M)->fW L x=fW L y->fW M x=fW M y:=fun {L M} h e=>
  ((wT (S:=fun z=>fW M z=fW M y) (L:=L) (fun l hl=>by
   have:=zR ((h l).1 hl);rw[this]) e).2 rfl)
 exact⟨key h,key fun l=>(h l).symm⟩
theorem Jo (L:List Lnk)(l:Lnk):fW (L++[l])=gr (fW L) l:=by unfold fW;rw[Zm];rfl
theorem NC {F:Int->Int}{l:Lnk}{x y:Int}:gr F l x=gr F l y↔F x=F y\/(F x=F l.a/\F y=F l.b)\/(F x=F l.b/\F y=F l.a):=by
 unfold gr;by_cases h1:F x=F l.b<;>by_cases h2:F y=F l.b
 ·rw[aj h1,aj h2];simp[h1,h2]
 ·rw[aj h1,af h2];constructor
  ·intro h;exact .inr (.inr ⟨h1,h.symm⟩)
  ·rintro (h|h|h)
   ·exact absurd (h.symm.trans h1) h2
   ·exact absurd h.2 h2
   ·exact h.2.symm
 ·rw[af h1,aj h2];constructor
  ·intro h;exact .inr (.inl ⟨h,h2⟩)
  ·rintro (h|h|h)
   ·exact absurd (h.trans h2) h1
   ·exact h.1
   ·exact absurd h.1 h1
 ·rw[af h1,af h2];constructor
  ·intro h;exact .inl h
  ·rintro (h|h|h)
   ·exact h
   ·exact absurd h.2 h2
   ·exact absurd h.1 h1
theorem Re {l:Lnk}(h:l.a < l.b):fY l.a l.b=l/\fY l.b l.a=l:=by
 unfold fY;rw[af aa,aj h,aj h,af aa];exact⟨rfl,rfl⟩
theorem Rf {L:List Lnk}{a b:Int}(h:fY a b∈L):fW L a=fW L b:=by
 have:=zR h;unfold fY at this;by_cases h1:b < a
 ·rw[aj h1,af aa]at this;exact this.symm
 ·rw[af h1]at this;split at this
  ·exact this
  ·have:a=b:=aa;rw[this]
def SQ (L:List Lnk)(ids:List Int)(i k:Nat):Bool:=decide (fY (ids.getD i 0) (ids.getD k 0)∈L)
theorem G9 {L:List Lnk}{ids:List Int}(hn:ids.Nodup)(hl:∀l∈L,l.a∈ids/\l.b∈ids/\l.a < l.b){i k:Nat}(hi:i < ids.length)(hk:k < ids.length):
 (dU (SQ L ids) ((XY ids.length false).set i true) ids.length).getD k false=(fW L (ids.getD k 0)==fW L (ids.getD i 0)):=by
 have bB:((XY ids.length false).set i true).length=ids.length:=ah;have rA:0 < ((XY ids.length false).set i true).count true:=by
  rw[List.count_pos_iff,X3];exact⟨i,by simpa using hi,by simp⟩
 have a2Y:∀j,((XY ids.length false).set i true).getD j false=true->j=i:=by
  intro j hj;rw[XC,L']at hj;split at hj
  ·rename_i e;exact e.symm
  ·rw[List.getElem?_replicate]at hj;split at hj<;>simp at hj
 have gU:=fun(i k:Nat)=>D6 (SQ L ids) _ rA (i:=i) (k:=k);rw[bB]at gU;rw[Yk,beq_iff_eq];constructor
 ·intro h;exact CR (SQ L ids) (G:=fun j=>fW L (ids.getD j 0)=fW L (ids.getD i 0)) (fun u v hu Sy=>by
   unfold SQ at Sy;rw[decide_eq_true_eq]at Sy;show fW L _=_;rw[<-Rf Sy];exact hu) (fun j hj=>by rw[a2Y j hj]) _ k h
 ·intro h;have gz:∀x∈ids,∃j,j < ids.length/\ids.getD j 0=x:=fun x hx=>by
   obtain⟨j,hj,rfl⟩:=X3.1 hx;exact⟨j,hj,by simp[XC,hj]⟩
  have hS:=wT (L:=L) (S:=fun x=>∃j,j < ids.length/\ids.getD j 0=x/\(dU (SQ L ids) ((XY ids.length false).set i true) ids.length).getD j false=true) (fun l xV=>by
   obtain⟨ha,hb,iA⟩:=hl l xV;obtain⟨u,hu,eu⟩:=gz _ ha;obtain⟨v,hv,ev⟩:=gz _ hb;constructor
   ·rintro⟨j,hj,ej,h2⟩;refine⟨v,hv,ev,gU j v hj hv h2 ?_⟩;unfold SQ;rw[ej,ev,(Re iA).1,decide_eq_true_eq];exact xV
   ·rintro⟨j,hj,ej,h2⟩;refine⟨u,hu,eu,gU j u hj hu h2 ?_⟩;unfold SQ;rw[ej,eu,(Re iA).2,decide_eq_true_eq];exact xV) h
  obtain⟨j,hj,ej,h2⟩:=hS.2 ⟨i,hi,rfl,KX (ri _ _ _) (by simp[XC,hi])⟩;have:j=k:=by
   have e1:ids[j]=ids[k]:=by simpa[XC,hj,hk]using ej
   rcases Y7 j k with h|h|h
   ·exact absurd e1 (XF.1 hn j k hj hk h)
   ·exact h
   ·exact absurd e1.symm (XF.1 hn k j hk hj h)
  rw[<-this];exact h2
theorem zS (n:Net):bg n=fW n.links:=by
 unfold bg stN fW;have key:∀(L:List Lnk) (s:List (List Int × Int) × (Int->Int)),(L.foldl rP s).2=L.foldl gr s.2:=by
  intro L;induction L with
  |nil=>intro s;rfl
  |cons l L ih=>intro s;rw[YO,YO,ih];rfl
 exact key _ _
theorem a4B {p:Prop}(h:p:=by
 refine ap ?_<;>intros;refine hC _ _ trivial ?_;rw[ec.out,rz.out];exact wf):p:=h
@[go_sem] def qw (b:Bool):List D:=[.v (.bool b)]
@[go_sem] theorem a2l (n:Nat)(b:Bool):XY n [PV.d (.v (.bool b))]=ab ((XY n b).map qw):=by simp[ab,qw,List.map_replicate]
theorem Rg (l:List Bool)(i:Nat)(b:Bool):(ab (l.map qw)).set i [.d (.v (.bool b))]=ab ((l.set i b).map qw):=bU qw l i b
theorem W3 {n:Net}{i k:Nat}{v w:Vpc}(hv:n.vpcs[i]? =some v)(hw:n.vpcs[k]? =some w):SQ n.links (n.vpcs.map (·.id)) i k=kJ n v.id w.id:=by
 have e1:(n.vpcs.map (·.id)).getD i 0=v.id:=by simp[XC,hv]
 have e2:(n.vpcs.map (·.id)).getD k 0=w.id:=by simp[XC,hw]
 unfold SQ kJ;rw[e1,e2,Yk,decide_eq_true_eq,XU];simp
theorem ND {n:Net}(hr:n.vpcs.Pairwise fun a b=>a.id < b.id):(n.vpcs.map (·.id)).Nodup:=by
 unfold List.Nodup;rw[Y8];exact hr.imp fun h=>by omega
theorem zT (n:Net)(id:Int)(i0:Nat)(hx:fl n id=some i0)(h6:n.vpcs.length<=6)(Si:n.links.length<=12)(hr:n.vpcs.Pairwise fun a b=>a.id < b.id)(hl:∀l∈n.links,l.a∈n.vpcs.map (·.id)/\l.b∈n.vpcs.map (·.id)/\l.a < l.b):
 ai prog 74 [.agg (cQ n),.v (.int .i64 id)] (.sl 1 ((qq n id).map cF)):=by
 obtain⟨v0,HE,he0,mZ,wg⟩:=eL hx;have dK:=iF n id aa;rw[kY,hx]at dK
 simp only at dK
 obtain⟨lk,li⟩:∃lk,lk=SQ n.links (n.vpcs.map (·.id)):=⟨_,rfl⟩;obtain⟨l0,rC⟩:∃l0,l0=(XY n.vpcs.length false).set i0 true:=⟨_,rfl⟩;have xV:l0.length=n.vpcs.length:=by rw[rC];simp
 have cp:∀(k:Nat) (v:Vpc),n.vpcs[k]? =some v->(dU lk l0 n.vpcs.length)[k]? =some (bg n v.id==bg n id):=fun k v hv=>by
  have hk:=(Xn.1 hv).1;have h:=G9 (L:=n.links) (ids:=n.vpcs.map (·.id)) (ND hr) hl (i:=i0) (k:=k) (by simpa using mZ) (by simpa using hk);have e1:(n.vpcs.map (·.id)).getD k 0=v.id:=by simp[XC,hv]
  have e2:(n.vpcs.map (·.id)).getD i0 0=id:=by simp[XC,HE,he0]
  rw[e1,e2,XB,<-li,<-rC,<-zS]at h;have jV:k < (dU lk l0 n.vpcs.length).length:=by rw[qv,xV];exact hk
  rw[<-h,XC,Xk jV];rfl
 have N9:0 < n.vpcs.length:=aa;have a3p:0 < (n.vpcs.length:Int):=aa;have jc:(ab ((XY n.vpcs.length false).map qw)).set i0 [.d (.v (.bool true))]=ab (l0.map qw):=by rw[Rg,<-rC]
 have V5:(0:Int)<=(i0:Int):=aa;have JX:(XY n.vpcs.length false)[i0]? =some false:=by rw[List.getElem?_replicate,aj mZ]
 have H4:qq n id=(n.vpcs.filter fun v=>bg n v.id==bg n id).map (·.id):=rfl;rw[H4];clear H4 hx wg hl hr;replace cp:=Xj cp;replace rC:=Xj rC;replace he0:=Xj he0;replace li:=Xj li;refine pj func74 ntmps74 results74 ?_;have z1z:=@List.length_replicate.{0};refine ft ?_ ?_ ?_ ?_ ?_ ?_ ?_ ?_<;>first|(with_reducible exact True.intro)|intros
 clear dK jc HE JX;refine tJ ag am n.vpcs.length (fun _=>True) (fun t=>[(6,.d (.v (.int .i64 t))),(5,.own 1 0),(4,.d (.v (.slice none 0 0))),(2,.ptr 0 0)])
  (fun t=>[.box 34 ((cQ n).map .d),.row 4 1 0 (ab ((dU lk l0 t).map qw))]) trivial (wf) ?_ ?_
 ·intro t ht _ CT hCT;have htI:(t:Int) < (n.vpcs.length:Int):=aa;have Vr:=wi t aa;have hlt:=qv lk l0 t;rw[xV]at hlt;have wb:dU lk l0 (t+1)=jz lk (dU lk l0 t) n.vpcs.length:=by show jz lk (dU lk l0 t) l0.length=_;rw[xV]
  replace wb:=Xj wb;generalize dU lk l0 t=A at*;refine ap ?_<;>intros;refine tJ ag am n.vpcs.length (fun _=>True) (fun i=>[(7,.d (.v (.int .i64 i))),(6,.d (.v (.int .i64 t))),(5,.own 1 0),(4,.d (.v (.slice none 0 0))),(2,.ptr 0 0)])
   (fun i=>[.box 34 ((cQ n).map .d),.row 4 1 0 (ab ((jz lk A i).map qw))]) trivial (wf) ?_ ?_
  ·intro i hi _ CI hCI;have a3w:(i:Int) < (n.vpcs.length:Int):=aa;have Da:=wi i aa;have qF:=G6 lk A i;rw[hlt]at qF;have a0F:jz lk A (i+1)=sO lk (jz lk A i) i n.vpcs.length:=by show sO lk (jz lk A i) i A.length=_;rw[hlt]
   replace a0F:=Xj a0F;obtain⟨vi,hvi⟩:∃v,n.vpcs[i]? =some v:=⟨_,Xk hi⟩;generalize jz lk A i=B at*;refine ap ?_<;>intros;refine tJ ag am n.vpcs.length (fun _=>True) (fun k=>[(8,.d (.v (.int .i64 k))),(7,.d (.v (.int .i64 i))),(6,.d (.v (.int .i64 t))),(5,.own 1 0),(4,.d (.v (.slice none 0 0))),(2,.ptr 0 0)])
    (fun k=>[.box 34 ((cQ n).map .d),.row 4 1 0 (ab ((sO lk B i k).map qw))]) trivial (wf) ?_ ?_
   ·intro k hk _ C hC;have eo:(k:Int) < (n.vpcs.length:Int):=aa;have hwk:=wi k aa;have a2Z:=G7 lk B i k;rw[qF]at a2Z;have ec:sO lk B i (k+1)=wR lk i k (sO lk B i k):=rfl;obtain⟨vk,rD⟩:∃v,n.vpcs[k]? =some v:=⟨_,Xk hk⟩;have S4:=vH n vi.id vk.id aa;have kh:lk i k=kJ n vi.id vk.id:=by rw[li.out];exact W3 hvi rD
    generalize sO lk B i k=M at*;obtain⟨bk,cf⟩:∃b,M[k]? =some b:=⟨_,Xk aa⟩;obtain⟨bi,hbi⟩:∃b,M[i]? =some b:=⟨_,Xk aa⟩;have rz:wR lk i k M=M.set k (bk||(bi&&kJ n vi.id vk.id)):=by unfold wR;rw[kh];simp[XC,cf,hbi]
    generalize kJ n vi.id vk.id=q at*;have bV:=fun b=>Rg M k b;clear kh;replace ec:=Xj ec;replace rz:=Xj rz;cases bk with
    |true=>exact a4B
    |false=>
     cases bi with
     |false=>exact a4B
     |true=>exact a4B
   ·intro _ C;have Sz:=G7 lk B i n.vpcs.length;rw[qF]at Sz;refine ap ?_<;>intros;refine hCI _ _ trivial ?_;rw[a0F.out];exact wf
  ·intro _ C;have Sz:=G6 lk A n.vpcs.length;rw[hlt]at Sz;refine ap ?_<;>intros;refine hCT _ _ trivial ?_;rw[wb.out];exact wf
 ·intro _ C;have Sz:=qv lk l0 n.vpcs.length;rw[xV]at Sz;generalize dU lk l0 n.vpcs.length=M at*;refine ap ?_<;>intros;refine bQ ag am (fun m e h=>∃(k g:Nat),k<=n.vpcs.length/\m=n.vpcs.length - k/\e=[(10,.d (.v (.int .i64 k))),(9,.own 2 g),(5,.own 1 0),(4,.d (.v (.slice none 0 0))),(2,.ptr 0 0)]/\
   h=[.box 34 ((cQ n).map .d),.row 4 1 0 (ab (M.map qw)),.row 3 1 g (ab ((((n.vpcs.take k).filter fun v=>bg n v.id==bg n id).map (·.id)).map cF))]) _ _ _ ⟨0,0,XD _,rfl,rfl,rfl⟩ ?_ ?_
  ·refine(cZ ah 9 3 1 rfl).trans ?_;exact wf
  ·rintro m e h ⟨k,g,hk,hm,rfl,rfl⟩ C hC;by_cases hlt:k < n.vpcs.length
   ·have eo:(k:Int) < (n.vpcs.length:Int):=aa;have db:=wi k aa;obtain⟨v,hv⟩:∃v,n.vpcs[k]? =some v:=⟨_,Xk hlt⟩;have cf:=cp.out k v hv;have gX:((n.vpcs.take k).filter fun v=>bg n v.id==bg n id).length<=k:=by
     have:=Ze (fun v:Vpc=>bg n v.id==bg n id) (n.vpcs.take k);rw[Xp]at this;omega
    have RZ:((n.vpcs.take k).filter fun v=>bg n v.id==bg n id).length+1<=100:=aa;have ec:(n.vpcs.take (k+1)).filter (fun v=>bg n v.id==bg n id)=(n.vpcs.take k).filter (fun v=>bg n v.id==bg n id)++if (bg n v.id==bg n id)=true then [v]else []:=by
     rw[ak hv,YY];congr 1;cases hb:bg n v.id==bg n id<;>simp[hb]
    replace ec:=Xj ec;replace gX:=Xj gX;replace hm:=Xj hm;generalize (n.vpcs.take k).filter (fun v=>bg n v.id==bg n id)=L at*;cases e1:(bg n v.id==bg n id)with
    |false=>
     rw[e1]at ec cf;refine ap ?_<;>intros;refine hC _ _ _ _ _ ?_ ⟨k+1,g,hlt,rfl,rfl,rfl⟩ (wf (hh:=(by rw[ec.out];simp only[YB,if_false,Yi];rfl)) (hb:=cK) (hbh:=cK));have:=hm.out;omega
    |true=>
     rw[e1]at ec cf;refine ap ?_<;>intros;refine hC _ _ _ _ _ ?_ ⟨k+1,g+1,hlt,rfl,rfl,rfl⟩ (wf (hh:=(by rw[ec.out];simp only[if_true,Xo,Xm,Xr,<-aI];rfl)) (hb:=cK) (hbh:=cK));have:=hm.out;omega
   ·obtain rfl:k=n.vpcs.length:=aa;(try rw[Xq])
    replace hm:=Xj hm;exact bc;all_goals exact dg
theorem UI (y l:Lnk):tX y l < 0↔y.a < l.a\/(y.a=l.a/\y.b < l.b):=by
 unfold tX;simp only[Gh,eQ];repeat' split
 all_goals omega
theorem wU (v w:Vpc):dR v w=dR w v:=by
 have key:∀v w:Vpc,dR v w=true->dR w v=true:=fun v w h=>by
  unfold dR at h ⊢;obtain⟨r,hr,h⟩:=XU.1 h;obtain⟨q,hq,h⟩:=XU.1 h;exact XU.2 ⟨q,hq,XU.2 ⟨r,hr,by rw[sv];exact h⟩⟩
 rw[Yk];exact⟨key v w,key w v⟩
theorem NE (n:Net)(v w:Vpc):kS n v w=kS n w v:=by
 unfold kS;rw[wU v w,Bool.beq_comm]
theorem vI {n:Net}{i j:Nat}{v w:Vpc}(hij:i≠j)(hv:n.vpcs[i]? =some v)(hw:n.vpcs[j]? =some w)(h:kS n v w=true):eT n=false:=by
 rcases _i hij with hlt|hlt
 ·exact vu hlt hw hv (by rw[NE];exact h)
 ·exact vu hlt hv hw h
theorem K4 {n:Net}(hr:n.vpcs.Pairwise fun a b=>a.id < b.id){i:Nat}{v w:Vpc}(hv:n.vpcs[i]? =some v)(hw:w∈n.vpcs.take i):w.id≠v.id:=by
 obtain⟨j,hj,rfl⟩:=X3.1 hw;rw[ZP];obtain⟨hi,rfl⟩:=Xn.1 hv;have:=XF.1 hr j i (by rw[Xp]at hj;omega) hi (by rw[Xp]at hj;omega);omega
theorem qx {n:Net}(hr:n.vpcs.Pairwise fun a b=>a.id < b.id){j:Nat}{w:Vpc}(hw:n.vpcs[j]? =some w):fl n w.id=some j:=by
 unfold fl;rw[XI];obtain⟨hj,rfl⟩:=Xn.1 hw;refine⟨hj,by simp,fun i hi=>?_⟩;have:=XF.1 hr i j aa hj hi;simp;omega
theorem Jp {n:Net}(hr:n.vpcs.Pairwise fun a b=>a.id < b.id){id x:Int}{k:Nat}(h:(qq n id)[k]? =some x):∃j w,n.vpcs[j]? =some w/\w.id=x/\fl n x=some j/\bg n x=bg n id:=by
 have hm:=Xl h;unfold qq at hm;obtain⟨w,hw,rfl⟩:=XN.1 hm;rw[ZB,beq_iff_eq]at hw;obtain⟨j,hj⟩:=Zn.1 hw.1;exact⟨j,w,hj,rfl,qx hr hj,hw.2⟩
theorem D7 {n:Net}{id:Int}{w:Vpc}(hw:w∈n.vpcs)(h:bg n w.id=bg n id):w.id∈qq n id:=by
 unfold qq;exact XN.2 ⟨w,ZB.2 ⟨hw,by simpa using h⟩,rfl⟩
theorem D8 (n:Net)(id:Int):(qq n id).length<=n.vpcs.length:=by
 unfold qq;rw[XB];exact Ze _ _
theorem UJ {n:Net}(l:Lnk):lM n l=((fl n l.a).isSome&&((fl n l.b).isSome&&decide (l.a < l.b))):=by
 have key:∀x,(fV n x).isSome=(fl n x).isSome:=fun x=>by
  cases h:fl n x with
  |none=>rw[ek h];rfl
  |some i=>obtain⟨v,-,-,-,h2⟩:=eL h;rw[h2];rfl
 unfold lM;rw[key,key]
def Bk (n:Net):Prop:=∀v∈n.vpcs,v.subs.length<=9223372036854775807/\∀s∈v.subs,s.faces.length<=9223372036854775807
theorem kC (n:Net)(hz:Bk n):ai prog 37 [.agg (cQ n)] (.v (.int .i64 (cN n))):=by
 obtain⟨R,hR⟩:∃R,R=cN n:=⟨_,rfl⟩;rw[<-hR];replace hR:=Xj hR;replace hz:=Xj hz;by_cases h6:n.vpcs.length>6
 ·have h6I:decide ((n.vpcs.length:Int)>6)=true:=aK;have hr:R=2:=by rw[hR.out,cN,aj (.inl h6)]
  rw[hr];replace hr:=Xj hr;refine pj func37 ntmps37 results37 ?_;exact bc;all_goals exact aP.refl _
 by_cases Si:n.links.length>12
 ·have h6I:decide ((n.vpcs.length:Int)>6)=false:=aK;have a0q:decide ((n.links.length:Int)>12)=true:=aK;have hr:R=2:=by rw[hR.out,cN,aj (.inr Si)]
  rw[hr];replace hr:=Xj hr;refine pj func37 ntmps37 results37 ?_;exact bc;all_goals exact aP.refl _
 have h6I:decide ((n.vpcs.length:Int)>6)=false:=aK;have a0q:decide ((n.links.length:Int)>12)=false:=aK;have cg:¬(n.vpcs.length>6\/n.links.length>12):=aa;refine pj func37 ntmps37 results37 ?_;refine ap ?_<;>intros;refine bf ag am n.vpcs (fun k=>(∀v∈n.vpcs.take k,bT v=0)/\(n.vpcs.take k).Pairwise fun a b=>a.id < b.id) (fun k=>[(3,.d (.v (.int .i64 k))),(2,.d (.v (.int .i64 0))),(1,.ptr 0 0)]) (fun _=>[.box 34 ((cQ n).map .d)]) ah (wf) ?_ ?_
 ·intro k v hv hk hI C hC;have eo:(k:Int) < (n.vpcs.length:Int):=aa;have db:=wi k aa;have jd:=ak hv;have hzv:=hz.out v (Xl hv);have hcv:=io v hzv.1 hzv.2;clear hzv;by_cases hc:bT v=0
  ·have hid:1<=v.id:=by have:=(aY hc).id;simp[cB]at this;exact this.1
   rw[hc]at hcv;have nL:(nf (n.vpcs.take k) < v.id)->(∀v∈n.vpcs.take (k+1),bT v=0)/\(n.vpcs.take (k+1)).Pairwise fun a b=>a.id < b.id:=fun h=>by
    rw[jd];exact⟨fun u hu=>by
     rcases X0.1 hu with hu|hu
     ·exact hI.1 u hu
     ·rw[X7.1 hu];exact hc,zb hI.2 h⟩
   have bL:v.id<=nf (n.vpcs.take k)->R=1:=fun h=>by
    rw[hR.out];refine iV cg (.inl ?_);cases hb:qi n with
    |false=>rfl
    |true=>
     have:=(mr hb (k+1)).2;rw[jd]at this;exact absurd this (Co hid h)
   clear hI jd;replace hc:=Xj hc;replace nL:=Xj nL;replace bL:=Xj bL;by_cases hk0:k=0
   ·have hkz:decide ((k:Int)>0)=false:=aK;have hg:=nL.out (by rw[hk0];simp[nf];omega);replace hg:=Xj hg;replace hk0:=Xj hk0;refine ap ?_<;>intros;exact hC _ _ hg.out (wf)
   ·obtain⟨j,hj⟩:∃j,k=j+1:=⟨k - 1,by omega⟩;obtain⟨u,hu⟩:∃u,n.vpcs[j]? =some u:=⟨_,Xk aa⟩;have hkz:decide ((k:Int)>0)=true:=aK;have ci:IntKind.i64.wrap ((k:Int) - 1)=(j:Int):=by rw[IntKind.wrap_i64];omega
    have lz:(j:Int) < (n.vpcs.length:Int):=aa;have xB:nf (n.vpcs.take k)=u.id:=by rw[hj];unfold nf;rw[vz hu];rfl
    replace hj:=Xj hj;replace hk0:=Xj hk0;by_cases ho:u.id>=v.id
    ·have hr:R=1:=bL.out (by rw[xB];exact ho);rw[hr];replace hr:=Xj hr;replace xB:=Xj xB;exact bc;all_goals exact aP.refl _
    ·have hg:=nL.out (by rw[xB];omega);have iM:decide (u.id>=v.id)=false:=by simpa using ho
     replace xB:=Xj xB;replace hg:=Xj hg;replace ho:=Xj ho;refine ap ?_<;>intros;exact hC _ _ hg.out (wf)
  ·have hr:R=1:=by
    rw[hR.out];refine iV cg (.inl ?_);cases hb:qi n with
    |false=>rfl
    |true=>exact a6q
   have hcb:(bT v !=0)=true:=by simpa using hc
   rw[hr];clear hr hI hC jd;replace hc:=Xj hc;exact bc;all_goals exact aP.refl _
 ·intro hI C;rw[Xq]at hI;have Sj:=zc hI.1 hI.2;have pF:=hI.2;replace hI:=Xj hI;replace pF:=Xj pF;replace Sj:=Xj Sj;refine ap ?_<;>intros;refine bf ag am n.links (fun k=>(∀l∈n.links.take k,lM n l=true)/\j4 (n.links.take k)=true) (fun k=>[(4,.d (.v (.int .i64 k))),(2,.d (.v (.int .i64 0))),(1,.ptr 0 0)]) (fun _=>[.box 34 ((cQ n).map .d)]) (by simp[j4]) (wf) ?_ ?_
  ·intro k l hl hk hJ C hC;have eo:(k:Int) < (n.links.length:Int):=aa;have db:=wi k aa;have jd:=ak hl;have lA:=iF n l.a aa;have lw:=iF n l.b aa;rw[kY]at lA lw;have bL:lM n l=false->R=1:=fun h=>by
    rw[hR.out];refine iV cg (.inr (.inl ?_));rw[YW];exact⟨l,Xl hl,by simp[h]⟩
   have kh:=UJ (n:=n) l;have iL:lM n l=true->j4 (n.links.take (k+1))=true->(∀l∈n.links.take (k+1),lM n l=true)/\j4 (n.links.take (k+1))=true:=fun h g=>a4Z
   have AI:j4 (n.links.take (k+1))=false->R=1:=fun h=>a4Q
   have wa:=vx (n.links.take k) l;rw[<-jd,hJ.2,Ys]at wa;have Bt:decide ((-1:Int) < 0)=true:=rfl;clear jd;replace hJ:=Xj hJ;replace bL:=Xj bL;replace AI:=Xj AI;replace iL:=Xj iL;by_cases iA:l.a < l.b
   ·have hge:decide (l.a>=l.b)=false:=aK;cases ea:fl n l.a with
    |none=>
     rw[ea]at lA kh;simp only at lA;have hr:R=1:=bL.out (by rw[kh];rfl);rw[hr];clear hr kh wa lw;replace ea:=Xj ea;replace iA:=Xj iA;exact bc;all_goals exact aP.refl _
    |some ia=>
     rw[ea]at lA kh;simp only at lA;have Vt:decide ((ia:Int) < 0)=false:=ah;replace ea:=Xj ea;cases eb:fl n l.b with
     |none=>
      rw[eb]at lw kh;simp only at lw;have hr:R=1:=bL.out (by rw[kh];rfl);rw[hr];clear hr kh wa;replace eb:=Xj eb;replace iA:=Xj iA;exact bc;all_goals exact aP.refl _
     |some ib=>
      rw[eb]at lw kh;simp only at lw;have hib:decide ((ib:Int) < 0)=false:=ah;replace eb:=Xj eb;have hlt:lM n l=true:=by rw[kh];simp[iA]
      clear kh;replace hlt:=Xj hlt;replace iA:=Xj iA;by_cases hk0:k=0
      ·have hkz:decide ((k:Int)>0)=false:=aK;have hg:=iL.out hlt.out (by rw[wa,hk0];rfl);clear wa;replace hg:=Xj hg;replace hk0:=Xj hk0;refine ap ?_<;>intros;exact hC _ _ hg.out (wf)
      ·obtain⟨j,hj⟩:∃j,k=j+1:=⟨k - 1,by omega⟩;obtain⟨y,hy⟩:∃y,n.links[j]? =some y:=⟨_,Xk aa⟩;have hkz:decide ((k:Int)>0)=true:=aK;have ci:IntKind.i64.wrap ((k:Int) - 1)=(j:Int):=by rw[IntKind.wrap_i64];omega
       have lz:(j:Int) < (n.links.length:Int):=aa;have pM:=UI y l;rw[hj,vz hy]at wa;simp only at wa;rw[<-hj]at wa;replace hj:=Xj hj;replace hk0:=Xj hk0;by_cases ho:tX y l < 0
       ·have hg:=iL.out hlt.out (by rw[wa];simpa using ho);have eV:=pM.1 ho;clear wa pM ho;replace hg:=Xj hg;by_cases qF:y.a < l.a
        ·have e1:decide (y.a>l.a)=false:=aK;have e2:(y.a==l.a)=false:=aK;clear eV qF;refine ap ?_<;>intros;exact hC _ _ hg.out (wf)
        ·have e1:decide (y.a>l.a)=false:=aK;have e2:(y.a==l.a)=true:=aK;have e3:decide (y.b>=l.b)=false:=aK;clear eV qF;refine ap ?_<;>intros;exact hC _ _ hg.out (wf)
       ·have hr:R=1:=AI.out (by rw[wa];simpa using ho);have eV:¬(y.a < l.a\/(y.a=l.a/\y.b < l.b)):=fun h=>ho (pM.2 h);rw[hr];clear wa hr pM ho;by_cases qF:y.a>l.a
        ·have e1:decide (y.a>l.a)=true:=by simpa using qF
         clear eV qF;exact bc;all_goals exact aP.refl _
        ·have e1:decide (y.a>l.a)=false:=by simpa using qF
         have e2:(y.a==l.a)=true:=aK;have e3:decide (y.b>=l.b)=true:=aK;clear eV qF;exact bc;all_goals exact aP.refl _
   ·have hge:decide (l.a>=l.b)=true:=aK;have hr:R=1:=bL.out (by rw[kh];simp;omega);rw[hr];clear hr kh wa lA lw;replace iA:=Xj iA;exact bc;all_goals exact aP.refl _
  ·intro hJ C;rw[Xq]at hJ;have On:∀l∈n.links,l.a∈n.vpcs.map (·.id)/\l.b∈n.vpcs.map (·.id)/\l.a < l.b:=fun l hl=>by
    have:=hJ.1 l hl;unfold lM at this;simp only[Xt,decide_eq_true_eq]at this;exact⟨fM this.1,fM this.2.1,this.2.2⟩
   replace hJ:=Xj hJ;replace On:=Xj On;refine ap ?_<;>intros;refine bf ag am n.vpcs (fun k=>∀v∈n.vpcs.take k,∀w∈n.vpcs,w.id≠v.id->kS n v w=false) (fun k=>[(6,.d (.v (.int .i64 k))),(2,.d (.v (.int .i64 0))),(1,.ptr 0 0)]) (fun _=>[.box 34 ((cQ n).map .d)]) ah (wf) ?_ ?_
   ·intro k v hv hk hK C hC;have eo:(k:Int) < (n.vpcs.length:Int):=aa;have db:=wi k aa;have hgp:=zT n v.id k (qx pF.out hv) aa aa pF.out On.out;have hgl:=D8 n v.id;have ec:(∀w∈n.vpcs,w.id≠v.id->kS n v w=false)->∀v∈n.vpcs.take (k+1),∀w∈n.vpcs,w.id≠v.id->kS n v w=false:=fun h u hu=>by
     rw[ak hv]at hu;rcases X0.1 hu with hu|hu
     ·exact hK u hu
     ·rw[X7.1 hu];exact h
    have hgm:∀w∈n.vpcs,bg n w.id=bg n v.id->w.id∈qq n v.id:=fun w hw h=>D7 hw h;have hga:∀(k:Nat) (x:Int),(qq n v.id)[k]? =some x->∃j w,n.vpcs[j]? =some w/\w.id=x/\fl n x=some j/\bg n x=bg n v.id:=fun k x h=>Jp pF.out h;replace hK:=Xj hK;replace ec:=Xj ec;replace hgm:=Xj hgm;replace hga:=Xj hga;generalize qq n v.id=G at*;refine ap ?_<;>intros;refine bf ag am G (fun j=>∀w∈n.vpcs,w.id∈G.take j->w.id≠v.id->kS n v w=false) (fun j=>[(8,.d (.v (.int .i64 j))),(7,.d (.sl 1 (G.map cF))),(6,.d (.v (.int .i64 k))),(2,.d (.v (.int .i64 0))),(1,.ptr 0 0)]) (fun _=>[.box 34 ((cQ n).map .d)]) ah (wf) ?_ ?_
    ·intro j x hx hj hL C2 j6;have lz:(j:Int) < (G.length:Int):=aa;have nI:=wi j aa;obtain⟨q,w,hw,hwx,hqx,hhx⟩:=hga.out j x hx;have SA:(x≠v.id->kS n v w=false)->∀w∈n.vpcs,w.id∈G.take (j+1)->w.id≠v.id->kS n v w=false:=fun h u hu hug bH=>by
      rw[ak hx]at hug;rcases X0.1 hug with hug|hug
      ·exact hL u hu hug bH
      ·have e1:u.id=x:=X7.1 hug;obtain⟨p,hp⟩:=Zn.1 hu;have e2:=qx pF.out hp;rw[e1,hqx]at e2;cases e2;rw[hw]at hp;cases hp;exact h (by rw[<-e1];exact bH)
     by_cases S5:x=v.id
     ·have e1:(x !=v.id)=false:=by simpa using S5
      have hn:=SA fun h=>absurd S5 h;clear SA hL;replace hn:=Xj hn;replace S5:=Xj S5;replace hwx:=Xj hwx;refine ap ?_<;>intros;exact j6 _ _ hn.out (wf)
     ·have e1:(x !=v.id)=true:=by simpa using S5
      have dK:=iF n x aa;rw[kY,hqx]at dK
      simp only at dK
      have C8:=(aY (hI.out.1 v (Xl hv))).n4;have hrw:=(aY (hI.out.1 w (Xl hw))).n4;have gU:=G4 v w aa aa;have hq0:(0:Int)<=(q:Int):=aa;have vZ:(q:Int) < (n.vpcs.length:Int):=by have:=(Xn.1 hw).1;omega
      have JP:kS n v w=dR v w:=by unfold kS;rw[hwx,hhx];simp
      have hkq:k≠q:=fun e=>by subst e;rw[hv]at hw;cases hw;exact S5 hwx.symm
      clear C8 hrw;replace hwx:=Xj hwx;replace hkq:=Xj hkq;replace hqx:=Xj hqx;replace hhx:=Xj hhx;replace hL:=Xj hL;cases b:dR v w with
      |true=>
       have hr:R=1:=by
        rw[hR.out];exact iV cg (.inr (.inr (.inr (vI hkq.out hv hw (by rw[JP];exact b)))))
       rw[b]at gU;rw[hr];clear hr SA JP b;replace S5:=Xj S5;exact bc;all_goals exact aP.refl _
      |false=>
       have hn:=SA fun _=>by rw[JP];exact b
       rw[b]at gU;clear SA JP b;replace hn:=Xj hn;replace S5:=Xj S5;refine ap ?_<;>intros;exact j6 _ _ hn.out (wf)
    ·intro hL C2;rw[Xq]at hL;have hn:=ec.out fun w hw bH=>by
      by_cases hh:bg n w.id=bg n v.id
      ·exact hL w hw (hgm.out w hw hh) bH
      ·unfold kS;have:(bg n v.id==bg n w.id)=false:=by simpa using fun e=>hh e.symm
       rw[this];rfl
     replace hL:=Xj hL;replace hn:=Xj hn;refine ap ?_<;>intros;exact hC _ _ hn.out (wf)
   ·intro hK C;rw[Xq]at hK;have hr:R=0:=by
     rw[hR.out];refine vv cg Sj.out (by rw[XA];exact hJ.out.1) hJ.out.2 (sx fun i v w hv hw=>?_);exact hK v (Xl hv) w (Yd hw) (K4 pF.out hv hw)
    rw[hr];replace hr:=Xj hr;replace hK:=Xj hK;exact bc;all_goals exact aP.refl _
theorem a3B {p:Prop}(h:p:=by
 intro j f hf hj _ C hC;have lz:(j:Int) < (s.faces.length:Int):=aa;have nI:=wi j aa;have gX:=jF.2 f (Xl hf);have iO:j+1<=100:=aa;have ro:(Yf j s.faces).length=j:=by rw[Xp];omega
 replace hf:=Xj hf;have Dd:=hf.out;refine ap ?_<;>intros;refine hC _ _ trivial ((av 8 1 3 1 (f.addrs.map cF) rfl).trans ?_);simp only[jq,fz,ij,gM,iS,gI,aT,bW,ce,Xm,Xr,XL,XK,reduceIte,and_true,true_and,and_self,and_false,false_and,XE,XT,reduceCtorEq,dn];exact wf (hh:=(by rw[ak hf.out,Xo,Xm,Xr,<-aI];rfl)) (hb:=cK) (hbh:=cK)):p:=h
theorem a3E {p:Prop}(h:p:=by
 refine(ay ah 5 107 [.d (.v (.int .i64 s.id)),.d (.v (.int .i64 s.at_.at_)),.d (.v (.int .i64 s.at_.len)),.d (.v (.slice none 0 0))] 3 110 2 rfl rfl rfl).trans ?_;exact wf (hb:=cK) (hbh:=cK)):p:=h
theorem a3R {p:Prop}(h:p:=by
 refine(ay ah 3 88 [.d (.v (.int .i64 v.id)),.own 2 1,.d (.v (.slice none 0 0))] 2 107 4 rfl rfl rfl).trans ?_;exact wf (hb:=cK) (hbh:=cK)):p:=h
theorem zU (v:Vpc)(h4:v.ranges.length<=4)(h6:v.subs.length<=6)(h8:∀s∈v.subs,s.faces.length<=8/\∀f∈s.faces,f.addrs.length<=4):
 MSpec prog 87 [.d (.agg (ax v))] [] (.agg [.d (.v (.int .i64 v.id)),.own 2 1,.own 4 v.subs.length]) [.gone,.gone,.row 100 3 1 (ab (v.ranges.map bE)),.gone,.row 107 4 v.subs.length (ab (v.subs.map aX))]:=by
 replace h8:=Xj h8;refine mj func87 ntmps87 results87 ?_;refine ap ?_<;>intros;refine bf ag am v.subs (fun _=>True) (fun k=>[(4,.d (.v (.int .i64 k))),(3,.ptr 3 0),(2,.ptr 1 0),(1,.ptr 0 0)]) (fun k=>[.box 88 ((ax v).map .d),.box 88 [.d (.v (.int .i64 0)),.d (.v (.slice none 0 0)),.d (.v (.slice none 0 0))],.row 100 3 1 (ab (v.ranges.map bE)),.box 88 [.d (.v (.int .i64 v.id)),.own 2 1,.own 4 k],.row 107 4 k (ab ((v.subs.take k).map aX))]) trivial ?_ ?_ ?_
 ·exact a3R
 ·intro k s hs hk _ CO we;have eo:(k:Int) < (v.subs.length:Int):=aa;have db:=wi k aa;have jF:=h8.out s (Xl hs);have j7:k+1<=100:=aa;have li:(Yf k v.subs).length=k:=by rw[Xp];omega
  replace hs:=Xj hs;have mQ:=hs.out;refine ap ?_<;>intros;refine bf ag am s.faces (fun _=>True) (fun j=>[(6,.d (.v (.int .i64 j))),(5,.ptr 5 0),(4,.d (.v (.int .i64 k))),(3,.ptr 3 0),(2,.ptr 1 0),(1,.ptr 0 0)])
   (fun j=>[.box 88 ((ax v).map .d),.box 88 [.d (.v (.int .i64 0)),.d (.v (.slice none 0 0)),.d (.v (.slice none 0 0))],.row 100 3 1 (ab (v.ranges.map bE)),.box 88 [.d (.v (.int .i64 v.id)),.own 2 1,.own 4 k],.row 107 4 k (ab ((v.subs.take k).map aX)),.box 107 [.d (.v (.int .i64 s.id)),.d (.v (.int .i64 s.at_.at_)),.d (.v (.int .i64 s.at_.len)),.own 6 j],.row 110 2 j (ab ((s.faces.take j).map cl))]) trivial ?_ ?_ ?_
  ·exact a3E
  ·exact a3B
  ·exact a3K
 ·intro _ C;refine ap ?_<;>intros;(try rw[Xq])
  refine(aL 0 ah).trans ?_;refine(aL 1 (by simp[bD])).trans ?_;exact(aL 3 (by simp[bD])).trans (bn rfl rfl)
theorem oB (n:Net)(h6:n.vpcs.length<=6)(Si:n.links.length<=12)(hv:∀v∈n.vpcs,bT v=0):
 MSpec prog 48 [.d (.agg (cQ n))] [] (.agg [.own 4 n.vpcs.length,.own 2 1]) [.gone,.gone,.row 91 2 1 (ab (n.links.map cP)),.gone,.row 88 3 n.vpcs.length (ab (n.vpcs.map ax))]:=by
 replace hv:=Xj hv;refine mj func48 ntmps48 results48 ?_;refine ap ?_<;>intros;refine bf ag am n.vpcs (fun _=>True) (fun k=>[(4,.d (.v (.int .i64 k))),(3,.ptr 3 0),(2,.ptr 1 0),(1,.ptr 0 0)])
  (fun k=>[.box 34 ((cQ n).map .d),.box 34 [.d (.v (.slice none 0 0)),.d (.v (.slice none 0 0))],.row 91 2 1 (ab (n.links.map cP)),.box 34 [.own 4 k,.own 2 1],.row 88 3 k (ab ((n.vpcs.take k).map ax))]) trivial ?_ ?_ ?_
 ·refine(ay ah 3 34 [.d (.v (.slice none 0 0)),.own 2 1] 0 88 3 rfl rfl rfl).trans ?_;exact wf (hb:=cK) (hbh:=cK)
 ·intro k v HE hk _ C hC;have eo:(k:Int) < (n.vpcs.length:Int):=aa;have db:=wi k aa;have Ax:k+1<=100:=aa;have hlv:(Yf k n.vpcs).length=k:=by rw[Xp];omega
  have rD:=aY (hv.out v (Xl HE));have iM:=zU v rD.n4 rD.n6 rD.n8;clear rD;replace HE:=Xj HE;have ry:=HE.out;have z1z:=Ln.mk (ls:=[]) (iM);refine ap ?_<;>intros;refine hC _ _ trivial ((av 9 v.subs.length 107 4 (v.subs.map aX) rfl).trans ?_);simp only[jq,fz,ij,gM,iS,gI,aT,bW,ce,Xm,Xr,XL,XK,reduceIte,and_true,true_and,and_self,and_false,false_and,XE,XT,reduceCtorEq];refine(av 7 1 100 3 (v.ranges.map bE) rfl).trans ?_;simp only[jq,fz,ij,gM,iS,gI,aT,bW,ce,Xm,Xr,XL,XK,reduceIte,and_true,true_and,and_self,and_false,false_and,XE,XT,reduceCtorEq];exact wf (hh:=(by rw[ak HE.out,Xo,Xm,Xr,<-aI];rfl)) (hb:=cK) (hbh:=cK)
 ·intro _ C;refine ap ?_<;>intros;refine(aL 0 ah).trans ?_;refine(aL 1 (by simp[bD])).trans ?_;exact(aL 3 (by simp[bD])).trans (bn rfl rfl)
theorem W4 {α:Type}{key:α->Int}{t:Int}{l:List α}{k:Nat}{q:α}(hk:k < j8 key t l)(hq:l[k]? =some q):key q < t:=a5v
theorem W5 {α:Type}{key:α->Int}{t:Int}{l:List α}{q:α}(hq:l[j8 key t l]? =some q):t<=key q:=a4H
def xr {α:Type}(key:α->Int)(x:α)(l:List α)(k:Nat)(out:List α)(f:Bool):Prop:=
 out.length<=k+1/\((f=false/\k<=j8 key (key x) l/\out=l.take k)\/(f=true/\j8 key (key x) l < k/\out++l.drop k=dv key x l))
section
variable {α:Type}{key:α->Int}{x y:α}{l:List α}{k:Nat}{out:List α}
theorem Jq:xr key x l 0 [] false:=⟨XD _,.inl ⟨rfl,XD _,rfl⟩⟩
theorem Jr (h:xr key x l k out true)(hy:l[k]? =some y):xr key x l (k+1) (out++[y]) true:=by
 obtain⟨h1,h2|h2⟩:=h
 ·cases h2.1
 ·refine⟨by simp;omega,.inr ⟨rfl,by omega,?_⟩⟩;rw[<-h2.2.2,kR hy];simp
theorem Js (h:xr key x l k out false)(hy:l[k]? =some y)(hg:key y>key x):xr key x l (k+1) (out++[x]++[y]) true:=by
 obtain⟨h1,h2|h2⟩:=h
 ·have hk:k=j8 key (key x) l:=by
   rcases XM k (j8 key (key x) l)with h|h
   ·have:=W4 h hy;omega
   ·omega
  have hl:out.length<=k:=by rw[h2.2.2,Xp];omega
  refine⟨by simp;omega,.inr ⟨rfl,by omega,?_⟩⟩;unfold dv;rw[<-hk,h2.2.2,kR hy];simp
 ·cases h2.1
theorem Jt (h:xr key x l k out false)(hy:l[k]? =some y)(hg:key y < key x):xr key x l (k+1) (out++[y]) false:=by
 obtain⟨h1,h2|h2⟩:=h
 ·have hk:k < j8 key (key x) l:=by
   rcases XM k (j8 key (key x) l)with h|h
   ·exact h
   ·obtain rfl:k=j8 key (key x) l:=aa;have:=W5 hy;omega
  have hl:out.length<=k:=by rw[h2.2.2,Xp];omega
  exact⟨by simp;omega,.inl ⟨rfl,hk,by rw[h2.2.2,ak hy]⟩⟩
 ·cases h2.1
theorem D9 (h:xr key x l l.length out true):out=dv key x l:=by
 obtain⟨h1,h2|h2⟩:=h
 ·cases h2.1
 ·rw[<-h2.2.2,Zc,Yi]
theorem Ea (h:xr key x l l.length out false):out++[x]=dv key x l:=by
 obtain⟨h1,h2|h2⟩:=h
 ·have:=WB key (key x) l;unfold dv;rw[show j8 key (key x) l=l.length by omega,h2.2.2];simp
 ·cases h2.1
end
theorem NF (v:Vpc)(r:Rng)(hl:v.subs.length<=9223372036854775807)(hf:∀s∈v.subs,s.faces.length<=9223372036854775807):ai prog 148 [.agg (ax v),.agg (bE r)] (.tup [.agg (ax (cJ v r).1),.v (.int .i64 (cJ v r).2)]):=by
 obtain⟨R,hR⟩:∃R,R=cJ v r:=⟨_,rfl⟩;rw[<-hR];replace hR:=Xj hR;have bp:=io v hl hf;clear hl hf;by_cases hc:bT v=0
 ·have hk:=aY hc;have Om:=hk.n4;have iM:=zU v hk.n4 hk.n6 hk.n8;have hw:ai prog 55 [.v (.int .i64 r.pool),.v (.int .i64 1),.v (.int .i64 65536)] (.v (.bool (cB r.pool))):=gG _ _ _;have HO:ai prog 134 [.agg (aS r.at_)] (.v (.bool (chk r.at_.at_ r.at_.len==0))):=yX r.at_;have aQ:R=if nd v r≠0 then (Vpc.zero,nd v r)else ({v with ranges:=dv (·.at_.at_) r v.ranges},0):=by rw[hR.out];unfold cJ;rw[af (by simpa using hc)]
  unfold nd at aQ;replace aQ:=Xj aQ;rw[hc]at bp;clear hR hc;cases b1:(chk r.at_.at_ r.at_.len==0)with
  |false=>
   have hr:R=(Vpc.zero,1):=by rw[aQ.out];simp at b1;simp[b1]
   rw[b1]at HO;rw[hr];replace hr:=Xj hr;clear hk;refine pj func148 ntmps148 results148 ?_;refine ap ?_<;>intros;all_goals exact dg
  |true=>
  have c1:chk r.at_.at_ r.at_.len=0:=by simpa using b1
  rw[b1]at HO;cases b2:cB r.pool with
  |false=>
   have hr:R=(Vpc.zero,1):=by rw[aQ.out];simp[b2]
   rw[b2]at hw;rw[hr];replace hr:=Xj hr;clear hk;refine pj func148 ntmps148 results148 ?_;refine ap ?_<;>intros;all_goals exact dg
  |true=>
  rw[b2]at hw;have go:R=if (v.ranges.any fun q=>q.at_.meets r.at_)=true then (Vpc.zero,6)else if v.ranges.length=4 then (Vpc.zero,2)else ({v with ranges:=dv (·.at_.at_) r v.ranges},0):=by
   rw[aQ.out,c1,b2];cases(v.ranges.any fun q=>q.at_.meets r.at_)
   ·by_cases h:v.ranges.length=4<;>simp[h]
   ·simp
  have oG:r.at_.right=true:=by simp[Pfx.right,bF,c1]
  replace go:=Xj go;replace oG:=Xj oG;have hkr:=Xj hk.ranges;clear aQ hk c1;refine pj func148 ntmps148 results148 ?_;have z1z:=Ln.mk (ls:=[]) (iM);refine ap ?_<;>intros;clear iM bp HO hw;refine bQ ag am (fun m e h=>∃(k g:Nat) (out:List Rng) (f:Bool),k<=v.ranges.length/\xr (fun r:Rng=>r.at_.at_) r v.ranges k out f/\(v.ranges.take k).all (fun q=>!(q.at_.meets r.at_))=true/\m=v.ranges.length - k/\
   e=[(9,.d (.v (.int .i64 k))),(8,.d (.v (.bool f))),(7,.ptr 8 0),(5,.d (.v (.int .i64 0))),(4,.ptr 2 0),(3,.ptr 1 0),(2,.ptr 0 0)]/\h=[.box 88 ((ax v).map .d),.box 100 ((bE r).map .d),.box 88 [.d (.v (.int .i64 0)),.d (.v (.slice none 0 0)),.d (.v (.slice none 0 0))],.gone,.gone,.row 100 3 1 (ab (v.ranges.map bE)),.gone,.row 107 4 v.subs.length (ab (v.subs.map aX)),.box 88 [.d (.v (.int .i64 v.id)),.own 9 g,.own 7 v.subs.length],.row 100 3 g (ab (out.map bE))]) _ _ _ ⟨0,0,[],false,XD _,Jq,rfl,rfl,rfl,rfl⟩ ?_ ?_
  ·refine(ay ah 8 88 [.d (.v (.int .i64 v.id)),.d (.v (.slice none 0 0)),.own 7 v.subs.length] 1 100 3 rfl rfl rfl).trans ?_;exact wf
  ·rintro m e h ⟨k,g,out,f,hk,fS,bo,hm,rfl,rfl⟩ C hC;replace hm:=Xj hm;replace bo:=Xj bo;have pM:=fS.1;replace fS:=Xj fS;have Ax:out.length<=5:=aa;have j7:(out.length+1)*24<=140737488355328:=by clear pM hk Om;omega
   have iO:(out.length+1+1)*24<=140737488355328:=by clear pM hk Om j7;omega
   by_cases hlt:k < v.ranges.length
   ·have eo:(k:Int) < (v.ranges.length:Int):=aa;have db:=wi k aa;obtain⟨y,hy⟩:∃y,v.ranges[k]? =some y:=⟨_,Xk hlt⟩;have JZ:=Xl hy;have pL:=su y.at_ r.at_;rw[fI]at pL;cases b3:y.at_.meets r.at_ with
    |true=>
     have hr:R=(Vpc.zero,6):=by rw[go.out,aj (XU.2 ⟨y,JZ,b3⟩)]
     rw[b3]at pL;rw[hr];replace hr:=Xj hr;refine ap ?_<;>intros;all_goals exact dg
    |false=>
     rw[b3]at pL;have bH:y.at_.at_≠r.at_.at_:=y8 (jO (hkr.out y JZ)) oG.out b3;have mN:=eC (p:=fun q:Rng=>!(q.at_.meets r.at_)) hy bo.out (by rw[b3];rfl);replace mN:=Xj mN;replace bH:=Xj bH;replace JZ:=Xj JZ;cases f with
     |true=>
      have HZ:=Xj (Jr fS.out hy);refine ap ?_<;>intros;refine hC _ _ _ _ _ ?_ ⟨k+1,g+1,out++[y],true,hlt,HZ.out,mN.out,rfl,rfl,rfl⟩ (wf (hh:=(by simp only[ax,bE,Xo,Xm,Xr,<-aI];rfl)));have:=hm.out;omega
     |false=>
      cases b4:decide (y.at_.at_>r.at_.at_)with
      |true=>
       have HZ:=Xj (Js fS.out hy (of_decide_eq_true b4));refine ap ?_<;>intros;refine hC _ _ _ _ _ ?_ ⟨k+1,g+1+1,out++[r]++[y],true,hlt,HZ.out,mN.out,rfl,rfl,rfl⟩ (wf (hh:=(by simp only[ax,bE,Xo,Xm,Xr,<-aI,XV];rfl)));have:=hm.out;omega
      |false=>
       have HZ:=Xj (Jt fS.out hy (by have:=bH.out;have:=of_decide_eq_false b4;show y.at_.at_ < r.at_.at_;omega));refine ap ?_<;>intros;refine hC _ _ _ _ _ ?_ ⟨k+1,g+1,out++[y],false,hlt,HZ.out,mN.out,rfl,rfl,rfl⟩ (wf (hh:=(by simp only[ax,bE,Xo,Xm,Xr,<-aI];rfl)));have:=hm.out;omega
   ·obtain rfl:k=v.ranges.length:=aa;have cg:(v.ranges.any fun q=>q.at_.meets r.at_)=false:=by
     have bo:=bo.out;rw[Xq]at bo;rw[Yh];intro x hx;have:=XA.1 bo x hx;simpa using this
    have ld:R=if v.ranges.length=4 then (Vpc.zero,2)else ({v with ranges:=dv (·.at_.at_) r v.ranges},0):=by rw[go.out,af (by simp[cg])]
    clear go cg;cases f with
    |true=>
     have he:=D9 fS.out;have rW:out.length=v.ranges.length+1:=by rw[he,fL]
     rw[<-he]at ld;replace he:=Xj he;by_cases h4:v.ranges.length=4
     ·rw[aj h4]at ld;have hd:decide ((out.length:Int)>4)=true:=aK;rw[ld];replace ld:=Xj ld;replace rW:=Xj rW;refine ap ?_<;>intros;all_goals exact dg
     ·rw[af h4]at ld;have hd:decide ((out.length:Int)>4)=false:=aK;rw[ld];replace ld:=Xj ld;replace rW:=Xj rW;exact bc;all_goals exact dg
    |false=>
     have he:=Ea fS.out;have rW:out.length+1=v.ranges.length+1:=by have h:=congrArg O' he;rw[fL]at h;simpa using h
     rw[<-he]at ld;replace he:=Xj he;by_cases h4:v.ranges.length=4
     ·rw[aj h4]at ld;have hd:decide (((out.length+1:Nat):Int)>4)=true:=aK;rw[ld];replace ld:=Xj ld;replace rW:=Xj rW;refine ap ?_<;>intros;all_goals exact dg
     ·rw[af h4]at ld;have hd:decide (((out.length+1:Nat):Int)>4)=false:=aK;rw[ld];replace ld:=Xj ld;replace rW:=Xj rW;refine ap ?_<;>intros;all_goals(simp only[Xo,Xm,Xr];exact dg)
 ·have h1:(bT v !=0)=true:=by simpa using hc
  have hr:R=(Vpc.zero,bT v):=by rw[hR.out];unfold cJ;rw[aj hc]
  rw[hr];replace hr:=Xj hr;clear hR;refine pj func148 ntmps148 results148 ?_;refine ap ?_<;>intros;exact dg
def VL:List (List D)->List (List D)->Prop
 |[],[]=>True
 |r::l,s::m=>sj r s/\VL l m
 |_,_=>False
theorem zV:∀l:List (List D),VL l l
 |[]=>trivial
 |r::l=>⟨Ca r,zV l⟩
theorem K5:∀{a b c d:List (List D)},VL a b->VL c d->VL (a++c) (b++d)
 |[],[],_,_,_,h=>h
 |[],_::_,_,_,h,_=>h.elim
 |_::_,[],_,_,h,_=>h.elim
 |_::_,_::_,_,_,⟨h1,h2⟩,h=>⟨h1,K5 h2 h⟩
theorem K6 {A B:List (List D)}{r s:List D}(h:sj r s):VL (A++r::B) (A++s::B):=K5 (zV _) ⟨h,zV _⟩
theorem Rh:∀{l m:List (List D)},VL l m->l.length=m.length/\∀(j:Nat) (a b:List D),l[j]? =some a->m[j]? =some b->sj a b
 |[],[],_=>⟨rfl,fun j a b h=>by simp at h⟩
 |[],_::_,h=>h.elim
 |_::_,[],h=>h.elim
 |r::l,s::m,⟨h1,h2⟩=>by
  obtain⟨q1,q2⟩:=Rh h2;refine⟨by simp[q1],fun j a b ha hb=>?_⟩;cases j with
  |zero=>simp at ha hb;subst ha;subst hb;exact h1
  |succ j=>exact q2 j a b (by simpa using ha) (by simpa using hb)
theorem aP.sl {sz:Nat}{l m:List (List D)}(h:VL l m)(h1:∀r∈m,∀d∈r,d.one=true):aP (.sl sz l) (.sl sz m):=fun M w v hr=>by
 obtain⟨q1,q2⟩:=Rh h;cases hr with
 |nil _ ao cap hm=>
  have:m=[]:=X4 (by rw[<-q1];rfl);subst this;exact .nil sz ao cap hm
 |sl _ rows b off cap f hM hb hc hm hr _ ck bC=>
  rw[q1];have row:∀(i:Nat) (s:List D),m[i]? =some s->∃r,l[i]? =some r/\sj r s:=fun i s hs=>by
   obtain⟨hlt,-⟩:=Xn.1 hs;exact⟨l[i]'(by omega),Xk aa,q2 i _ s (Xk aa) hs⟩
  refine .sl sz m b off cap f hM hb aa hm (fun s hs=>?_) h1 (fun i j hi hj=>ck i j aa hj) (fun i j s d hs hd=>?_)
  ·obtain⟨i,hi,rfl⟩:=X3.1 hs;obtain⟨r,e1,e2⟩:=row i _ (Xk hi);rw[<-(xH e2).1];exact hr r (Xl e1)
  ·obtain⟨r,e1,e2⟩:=row i s hs;obtain⟨p1,p2⟩:=xH e2;obtain⟨hlt,-⟩:=Xn.1 hd;exact p2 j _ d (Xk aa) hd M w _ (bC i j r _ e1 (Xk aa))
theorem Ri {v:Vpc}(h:VpcOK v):bT v=0:=by
 rw[PU];refine⟨?_,?_,h.ar,h.as_⟩
 ·simp only[mh,Zx,decide_eq_false_iff_not,Yh];refine⟨by have:=h.n4;omega,by have:=h.n6;omega,fun s hs=>?_⟩;have h8:=h.n8 s hs;simp only[pr,Bool.not_eq_true,Zx,decide_eq_false_iff_not,Yh];refine⟨by omega,fun f hf=>?_⟩;have:=h8.2 f hf;simp[rM];omega
 ·unfold rN;simp only[Xt,XA,gE];exact⟨⟨h.id,h.rr,h.rs⟩,h.ranges,h.subs⟩
theorem NG {v:Vpc}{r:Rng}(h:(cJ v r).2=0):bT (cJ v r).1=0:=by
 unfold cJ at h ⊢;by_cases h1:bT v≠0
 ·rw[aj h1]at h;exact absurd h h1
 rw[af h1]at h ⊢;have hk:=aY (by simpa using h1);by_cases h2:nd v r≠0
 ·rw[aj h2]at h;exact absurd h h2
 rw[af h2]at h ⊢;have h3:nd v r=0:=by simpa using h2
 obtain⟨g1,g2,g3,g4⟩:cB r.pool=true/\chk r.at_.at_ r.at_.len=0/\(v.ranges.any fun q=>q.at_.meets r.at_)=false/\v.ranges.length≠4:=by
  unfold nd at h3;generalize (v.ranges.any fun q=>q.at_.meets r.at_)=M at*;generalize cB r.pool=I at*;grind
 have oG:r.at_.right=true:=by simp[Pfx.right,bF,g2]
 have cg:∀q∈v.ranges,q.at_.meets r.at_=false:=fun q hq=>by simpa using Yh.1 g3 q hq
 have bH:∀q∈v.ranges,q.at_.at_≠r.at_.at_:=fun q hq=>y8 (jO (hk.ranges q hq)) oG (cg q hq);refine Ri ⟨?_,hk.n6,hk.n8,hk.id,im hk.rr bH,hk.rs,fun q hq=>?_,fun s hs=>?_,?_,hk.as_⟩
 ·simp only[fL];have:=hk.n4;omega
 ·rcases og.1 hq with rfl|hq
  ·simp[eK,g1,g2]
  ·exact hk.ranges q hq
 ·have h4:=hk.subs s hs;unfold nE at h4 ⊢;simp only[Xt]at h4 ⊢;refine⟨h4.1,?_,h4.2.2⟩;have h5:=h4.2.1;unfold fJ at h5 ⊢;obtain⟨q,hq,h6⟩:=XU.1 h5;exact XU.2 ⟨q,og.2 (.inr hq),h6⟩
 ·rw[qg];have hp:((dv (fun x:Rng=>x.at_.at_) r v.ranges).map (·.at_)).Perm (r.at_::v.ranges.map (·.at_)):=by
   refine((gF (fun x:Rng=>x.at_.at_) r v.ranges).map (·.at_)).trans ?_;rw[Xo];exact List.perm_append_singleton _ _
  refine(List.Perm.pairwise_iff (R:=fun a b:Pfx=>b.meets a=false) (fun {a b} iA=>by rw[sv];exact iA) hp).2 ?_;rw[YC];refine⟨fun a ha=>?_,qg.1 hk.ar⟩;obtain⟨q,hq,rfl⟩:=XN.1 ha;exact cg q hq
theorem NH (n:Net)(id:Int)(hz:Bk n):ai prog 79 [.agg (cQ n),.v (.int .i64 id)] (.tup [.agg (cQ (jx n id).1),.v (.int .i64 (jx n id).2)]):=by
 obtain⟨R,hR⟩:∃R,R=jx n id:=⟨_,rfl⟩;rw[<-hR];replace hR:=Xj hR;have bp:=kC n hz;by_cases hc:cN n=0
 ·have bJ:=iq.1 hc;have h6:=bJ.n6;have iM:=oB n bJ.n6 bJ.n12 bJ.vp;have hw:ai prog 55 [.v (.int .i64 id),.v (.int .i64 1),.v (.int .i64 65536)] (.v (.bool (cB id))):=gG _ _ _;have dK:=iF n id aa;rw[kY]at dK
  have aQ:R=if je n id≠0 then (Net.zero,je n id)else ({n with vpcs:=dv (·.id) ⟨id,[],[]⟩ n.vpcs},0):=by rw[hR.out];unfold jx;rw[af (by simpa using hc)]
  unfold je at aQ;rw[hc]at bp;clear hR hc;cases b1:cB id with
  |false=>
   have hr:R=(Net.zero,3):=by rw[aQ];simp[b1]
   rw[b1]at hw;rw[hr];clear aQ hr bJ;refine pj func79 ntmps79 results79 ?_;refine ap ?_<;>intros;all_goals exact dg
  |true=>
  rw[b1]at hw;cases hx:fl n id with
  |some i=>
   obtain⟨v,hv,he,hi,wg⟩:=eL hx;have hr:R=(Net.zero,6):=by rw[aQ];simp[b1,wg]
   rw[hx]at dK
   simp only at dK
   have mZ:decide ((i:Int)>=0)=true:=ah;rw[hr];clear aQ hr bJ hv he wg hx;refine pj func79 ntmps79 results79 ?_;refine ap ?_<;>intros;all_goals exact dg
  |none=>
  have S2:=ek hx;rw[hx]at dK
  simp only at dK
  have Bt:decide ((-1:Int)>=0)=false:=rfl;by_cases H6:n.vpcs.length=6
  ·have hr:R=(Net.zero,2):=by rw[aQ];simp[b1,S2,H6]
   have hd:decide ((n.vpcs.length:Int)>=6)=true:=aK;rw[hr];clear aQ hr bJ S2 hx;replace H6:=Xj H6;refine pj func79 ntmps79 results79 ?_;refine ap ?_<;>intros;all_goals exact dg
  ·have hr:R=({n with vpcs:=dv (·.id) ⟨id,[],[]⟩ n.vpcs},0):=by rw[aQ];simp[b1,S2,H6]
   have hd:decide ((n.vpcs.length:Int)>=6)=false:=aK;have bH:=zJ S2;clear aQ bJ S2 hx;replace hr:=Xj hr;replace bH:=Xj bH;refine pj func79 ntmps79 results79 ?_;have z1z:=Ln.mk (ls:=[]) (iM);refine ap ?_<;>intros;clear iM bp hw dK
   refine bQ ag am (fun m e h=>∃(k g:Nat) (out:List Vpc) (f:Bool),k<=n.vpcs.length/\xr (fun v:Vpc=>v.id) ⟨id,[],[]⟩ n.vpcs k out f/\m=n.vpcs.length - k/\
    e=[(10,.d (.v (.int .i64 k))),(9,.d (.v (.bool f))),(8,.own 6 n.vpcs.length),(7,.ptr 7 0),(5,.d (.v (.int .i64 0))),(4,.ptr 1 0),(2,.ptr 0 0),(1,.d (.v (.int .i64 id)))]/\h=[.box 34 ((cQ n).map .d),.box 34 [.d (.v (.slice none 0 0)),.d (.v (.slice none 0 0))],.gone,.gone,.row 91 2 1 (ab (n.links.map cP)),.gone,.row 88 3 n.vpcs.length (ab (n.vpcs.map ax)),.box 34 [.own 8 g,.own 4 1],.row 88 3 g (ab (out.map ax))]) _ _ _ ⟨0,0,[],false,XD _,Jq,rfl,rfl,rfl⟩ ?_ ?_
   ·refine(ay ah 7 34 [.d (.v (.slice none 0 0)),.own 4 1] 0 88 3 rfl rfl rfl).trans ?_;exact wf
   ·rintro m e h ⟨k,g,out,f,hk,fS,hm,rfl,rfl⟩ C hC;replace hm:=Xj hm;have pM:=fS.1;replace fS:=Xj fS;have Ax:out.length<=7:=aa;have j7:(out.length+1)*56<=140737488355328:=by clear pM hk h6;omega
    have iO:(out.length+1+1)*56<=140737488355328:=by clear pM hk h6 j7;omega
    by_cases hlt:k < n.vpcs.length
    ·have eo:(k:Int) < (n.vpcs.length:Int):=aa;have db:=wi k aa;obtain⟨y,hy⟩:∃y,n.vpcs[k]? =some y:=⟨_,Xk hlt⟩;have hyn:=bH.out y (Xl hy);replace hyn:=Xj hyn;cases f with
     |true=>
      have HZ:=Xj (Jr fS.out hy);refine ap ?_<;>intros;refine hC _ _ _ _ _ ?_ ⟨k+1,g+1,out++[y],true,hlt,HZ.out,rfl,rfl,rfl⟩ (wf (hh:=(by simp only[cQ,ax,Xo,Xm,Xr,<-aI];rfl)));have:=hm.out;omega
     |false=>
      cases b4:decide (y.id>id)with
      |true=>
       have HZ:=Xj (Js fS.out hy (of_decide_eq_true b4));refine ap ?_<;>intros;refine hC _ _ _ _ _ ?_ ⟨k+1,g+1+1,out++[⟨id,[],[]⟩]++[y],true,hlt,HZ.out,rfl,rfl,rfl⟩ ((wE 8 rfl ah (rows':=ab ((out++[(⟨id,[],[]⟩:Vpc)]++[y]).map ax)) (by(try rw[aI]);simp only[Xo,Xm,Xr,XV,X9,Yb];exact tN dg) (mc (fun _=>rfl) _)).trans (wf));have:=hm.out;omega
      |false=>
       have HZ:=Xj (Jt fS.out hy (by have:=hyn.out;have:=of_decide_eq_false b4;show y.id < id;omega));refine ap ?_<;>intros;refine hC _ _ _ _ _ ?_ ⟨k+1,g+1,out++[y],false,hlt,HZ.out,rfl,rfl,rfl⟩ (wf (hh:=(by simp only[cQ,ax,Xo,Xm,Xr,<-aI];rfl)));have:=hm.out;omega
    ·obtain rfl:k=n.vpcs.length:=aa;have lD:=hr.out;clear hC;cases f with
     |true=>
      have he:=D9 fS.out;rw[<-he]at lD;rw[lD];replace he:=Xj he;replace lD:=Xj lD;exact bc;all_goals exact dg
     |false=>
      have he:=Ea fS.out;rw[<-he]at lD;rw[lD];replace he:=Xj he;replace lD:=Xj lD;refine ap ?_<;>intros;all_goals
       simp only[cQ,Xo,Xm,Xr];exact aP.tup ⟨aP.agg ⟨aP.sl (K6 dg) (by intro r hr d hd;obtain⟨x,-,rfl⟩:=XN.1 (by have h:r∈(out++[(⟨id,[],[]⟩:Vpc)]).map ax:=(by rw[Xo];exact hr);exact h);exact XA.1 (show (ax x).all D.one=true from rfl) d hd),aP.refl _,trivial⟩ rfl,aP.refl _,trivial⟩
 ·have h1:(cN n !=0)=true:=by simpa using hc
  have hr:R=(Net.zero,cN n):=by rw[hR.out];unfold jx;rw[aj hc]
  rw[hr];replace hr:=Xj hr;clear hR;refine pj func79 ntmps79 results79 ?_;refine ap ?_<;>intros;exact dg
theorem CS {n:Net}(bJ:NetOK n){i:Nat}{v:Vpc}(hv:n.vpcs[i]? =some v){r:Rng}(hg:(cJ v r).2=0):(cN {n with vpcs:=n.vpcs.set i (cJ v r).1}=0↔eT {n with vpcs:=n.vpcs.set i (cJ v r).1}=true)/\Bk {n with vpcs:=n.vpcs.set i (cJ v r).1}:=by
 have rD:=bJ.vp v (Xl hv);have SX:=Gz hg;have bp:bT (cJ v r).1=0:=NG hg;obtain⟨hi,hve⟩:=Xn.1 hv;have On:(n.vpcs.set i (cJ v r).1).map (·.id)=n.vpcs.map (·.id):=a5h
 generalize (cJ v r).1=w at*;have hvp:∀u∈n.vpcs.set i w,bT u=0:=fun u hu=>by
  rcases Y9 hu with hu|rfl
  ·exact bJ.vp u hu
  ·exact bp
 have Lu:(n.vpcs.set i w).Pairwise fun a b=>a.id < b.id:=by
  have h1:=bJ.rise;rw[<-Y8 (f:=fun v:Vpc=>v.id) (R:=fun a b:Int=>a < b)]at h1 ⊢;rw[On];exact h1
 have S3:∀x,(fV {n with vpcs:=n.vpcs.set i w} x).isSome=(fV n x).isSome:=fun x=>by
  have key:∀l:List Vpc,(l.find? fun v=>v.id==x).isSome=decide (x∈l.map (·.id)):=fun l=>by
   induction l with
   |nil=>simp
   |cons a l ih=>
    rw[List.find?_cons];split
    ·rename_i h;simp at h;simp[h]
    ·rename_i h;rw[ih];simp at h;simp;exact fun e=>absurd e.symm h
  unfold fV;simp only;rw[key,key,On]
 have li:∀l∈n.links,lM {n with vpcs:=n.vpcs.set i w} l=true:=fun l hl=>by
  have:=bJ.lk l hl;unfold lM at this ⊢;rw[S3,S3];exact this
 refine⟨⟨fun h=>(iq.1 h).pe,fun h=>iq.2 ⟨by simp;exact bJ.n6,bJ.n12,hvp,Lu,li,bJ.rk,h⟩⟩,fun u hu=>?_⟩;have:=aY (hvp u hu);exact⟨by have:=this.n6;omega,fun s hs=>by have:=(this.n8 s hs).1;omega⟩
theorem NI (n:Net)(id:Int)(r:Rng)(hz:Bk n):ai prog 83 [.agg (cQ n),.v (.int .i64 id),.agg (bE r)] (.tup [.agg (cQ (iJ n id r).1),.v (.int .i64 (iJ n id r).2)]):=by
 obtain⟨R,hR⟩:∃R,R=iJ n id r:=⟨_,rfl⟩;rw[<-hR];replace hR:=Xj hR;have bp:=kC n hz;by_cases hc:cN n=0
 ·have bJ:=iq.1 hc;have h6:=bJ.n6;have iM:=oB n bJ.n6 bJ.n12 bJ.vp;have dK:=iF n id aa;rw[kY]at dK
  rw[hc]at bp;have Bt:decide ((-1:Int) < 0)=true:=rfl;cases hx:fl n id with
  |none=>
   rw[hx]at dK
   simp only at dK
   have hr:R=(Net.zero,5):=by rw[hR.out];unfold iJ;rw[af (by simpa using hc),hx]
   rw[hr];clear hr hR bJ hx hc;refine pj func83 ntmps83 results83 ?_;refine ap ?_<;>intros;all_goals exact dg
  |some i=>
   obtain⟨v,hv,he,hi,wg⟩:=eL hx;rw[hx]at dK
   simp only at dK
   have hzv:=hz v (Xl hv);have hgp:=NF v r hzv.1 hzv.2;have mZ:decide ((i:Int) < 0)=false:=ah;have V5:(0:Int)<=(i:Int):=aa;have hiL:(i:Int) < (n.vpcs.length:Int):=aa;by_cases hg:(cJ v r).2=0
   ·have hgc:=CS bJ hv hg;have a3a:=kC _ hgc.2;have aQ:R=if eT {n with vpcs:=n.vpcs.set i (cJ v r).1}=true then ({n with vpcs:=n.vpcs.set i (cJ v r).1},0)else (Net.zero,9):=by
     rw[hR.out];unfold iJ;rw[af (by simpa using hc),hx];simp only[hv];rw[af (by simpa using hg)]
    rw[hg]at hgp;have Vv:=hgc.1;clear hR bJ hx hc hg wg hgc hz;replace he:=Xj he;generalize (cJ v r).1=w at*;have bV:(ab (n.vpcs.map ax)).set i [.d (.v (.int .i64 w.id)),.d (.sl 3 (w.ranges.map bE)),.d (.sl 4 (w.subs.map aX))]=ab ((n.vpcs.set i w).map ax):=bU ax n.vpcs i w;by_cases hq:cN {n with vpcs:=n.vpcs.set i w}=0
    ·have hr:R=({n with vpcs:=n.vpcs.set i w},0):=by rw[aQ,aj (Vv.1 hq)]
     rw[hq]at a3a;rw[hr];clear hr aQ hq Vv;refine pj func83 ntmps83 results83 ?_;have z1z:=Ln.mk (ls:=[]) (iM);exact bc;all_goals exact dg
    ·have hr:R=(Net.zero,9):=by rw[aQ,af (fun h=>hq (Vv.2 h))]
     have hqb:(cN {n with vpcs:=n.vpcs.set i w} !=0)=true:=by simpa using hq
     rw[hr];clear hr aQ hq Vv;generalize cN {n with vpcs:=n.vpcs.set i w}=Q at*;refine pj func83 ntmps83 results83 ?_;have z1z:=Ln.mk (ls:=[]) (iM);refine ap ?_<;>intros;all_goals exact dg
   ·have hr:R=(Net.zero,(cJ v r).2):=by
     rw[hR.out];unfold iJ;rw[af (by simpa using hc),hx];simp only[hv];rw[aj hg]
    have SS:((cJ v r).2 !=0)=true:=by simpa using hg
    rw[hr];clear hr hR bJ hx hc hg wg hz;replace he:=Xj he;generalize (cJ v r).1=w at*;generalize (cJ v r).2=E at*;refine pj func83 ntmps83 results83 ?_;refine ap ?_<;>intros;all_goals exact dg
 ·have h1:(cN n !=0)=true:=by simpa using hc
  have hr:R=(Net.zero,cN n):=by rw[hR.out];unfold iJ;rw[aj hc]
  rw[hr];replace hr:=Xj hr;clear hR;refine pj func83 ntmps83 results83 ?_;refine ap ?_<;>intros;exact dg
def Eb {α:Type}(key:α->Int)(x:α)(l:List α)(q:Nat)(out:List α):Prop:=q<=l.length/\out=l.take q++x::l.drop q/\∀y∈l.drop q,key x < key y
section
variable {α:Type}{key:α->Int}{x y:α}{l out:List α}{q:Nat}
theorem Rj:Eb key x l l.length (l++[x]):=⟨Xz _,by simp,by simp⟩
theorem Rk (h:Eb key x l q out):out[q]? =some x:=by
 rw[h.2.1,XH (by rw[Xp];omega),Xp,show q - min q l.length=0 by have:=h.1;omega];rfl
theorem Rl (h:Eb key x l q out)(h0:0 < q)(hy:l[q - 1]? =some y):out[q - 1]? =some y:=by
 rw[h.2.1,X5 (by rw[Xp];have:=h.1;omega),XP aa,hy]
theorem Rm (h:Eb key x l q out)(h0:0 < q)(hy:l[q - 1]? =some y)(hg:key y>key x):Eb key x l (q - 1) ((out.set (q - 1) x).set q y):=by
 obtain⟨h1,h2,h3⟩:=h;obtain⟨hlt,he⟩:=Xn.1 hy;obtain⟨n,rfl⟩:∃n,q=n+1:=⟨q - 1,by omega⟩;simp only[Nat.add_sub_cancel]at hy hlt he ⊢;have hd:=kR hy;have ht:=ak hy;refine⟨by omega,?_,fun z hz=>?_⟩
 ·rw[h2,ht,hd];have hl:(l.take n).length=n:=by rw[Xp];omega
  rw[XV,Yu _ _ aa,hl,YF,Yu _ _ aa,hl];simp
 ·rw[hd]at hz;rcases X2.1 hz with rfl|hz
  ·exact hg
  ·exact h3 z hz
theorem CU (h:Eb key x l q out)(hs:l.Pairwise fun a b=>key a < key b)(hl:∀y,0 < q->l[q - 1]? =some y->key y < key x):out=dv key x l:=by
 obtain⟨h1,h2,h3⟩:=h;have:j8 key (key x) l=q:=by
  refine so h1 (fun j hj hjq=>?_) (fun j hj hqj=>?_)
  ·have e1:=hl l[q - 1] aa (Xk aa);rcases XM j (q - 1)with h|h
   ·have:=XF.1 hs j (q - 1) hj aa h;omega
   ·obtain rfl:j=q - 1:=aa;exact e1
  ·have:=h3 l[j] (X3.2 ⟨j - q,by rw[XS];omega,by rw[List.getElem_drop];congr 1;omega⟩);omega
 unfold dv;rw[this,h2]
end
theorem vJ {α:Type}{f:α->Bool}{l:List α}{k:Nat}{x:α}(h:l[k]? =some x):(l.take (k+1)).filter f=if f x then (l.take k).filter f++[x]else (l.take k).filter f:=by
 rw[ak h,YY];cases hx:f x<;>simp[hx]
theorem a5G {p:Prop}(h:p:=by
 rintro (h|h|h)
 ·exact .inl h
 ·exact .inr (.inr h)
 ·exact .inr (.inl h)):p:=h
def zW (n:Net)(a b:Int):Bool:=n.vpcs.any fun v=>(bg n v.id==bg n a)&&n.vpcs.any fun w=>(bg n w.id==bg n b)&&((v.id !=w.id)&&dR v w)
theorem K7 {n:Net}{a b:Int}{v w:Vpc}(hv:v∈n.vpcs)(hw:w∈n.vpcs)(h1:bg n v.id=bg n a)(h2:bg n w.id=bg n b)(h3:v.id≠w.id)(h4:dR v w=true):zW n a b=true:=
 XU.2 ⟨v,hv,by simp only[h1,beq_self_eq_true,Ys];exact XU.2 ⟨w,hw,by simp[h2,h3,h4]⟩⟩
theorem K8 {n:Net}{a b:Int}(h:zW n a b=false){v w:Vpc}(hv:v∈n.vpcs)(hw:w∈n.vpcs)(h1:bg n v.id=bg n a)(h2:bg n w.id=bg n b)(h3:v.id≠w.id):dR v w=false:=by
 cases hb:dR v w with
 |false=>rfl
 |true=>rw[K7 hv hw h1 h2 h3 hb]at h;cases h
theorem NJ {n:Net}{l:Lnk}{x y:Int}{links:List Lnk}(hp:links.Perm (n.links++[l])):bg {n with links:=links} x=bg {n with links:=links} y↔gr (bg n) l x=gr (bg n) l y:=by
 rw[zS,zS,<-Jo];exact Jn fun m=>hp.mem_iff
theorem CV {n:Net}(a b:Int){x y:Int}:gr (bg n) (fY a b) x=gr (bg n) (fY a b) y↔bg n x=bg n y\/(bg n x=bg n a/\bg n y=bg n b)\/(bg n x=bg n b/\bg n y=bg n a):=by
 rw[NC];rcases vD a b with⟨e,-⟩|⟨e,-⟩
 ·rw[e]
 ·rw[e];constructor
  ·exact a5G
  ·exact a5G
theorem Rn {n:Net}{i j:Nat}{v w:Vpc}(hv:n.vpcs[i]? =some v)(hw:n.vpcs[j]? =some w)(h:v.id≠w.id):i≠j:=fun e=>by
 subst e;rw[hv]at hw;cases hw;exact h rfl
theorem Ju {n:Net}(bJ:NetOK n)(a b:Int):eT {n with links:=dv gj (fY a b) n.links}=!zW n a b:=by
 have hjh:=fun x y=>NJ (n:=n) (l:=fY a b) (x:=x) (y:=y) (gF gj (fY a b) n.links);cases hw:zW n a b with
 |true=>
  unfold zW at hw;obtain⟨v,hv,h⟩:=XU.1 hw;rw[Xt,beq_iff_eq]at h;obtain⟨h1,h⟩:=h;obtain⟨w,hw,h⟩:=XU.1 h;simp only[Xt,beq_iff_eq,bne_iff_ne,ne_eq]at h;obtain⟨h2,h3,h4⟩:=h;obtain⟨i,hi⟩:=Zn.1 hv;obtain⟨j,hj⟩:=Zn.1 hw;refine vI (n:={n with links:=dv gj (fY a b) n.links}) (Rn hi hj h3) hi hj ?_;unfold kS;rw[h4,YA,beq_iff_eq,hjh,CV];exact .inr (.inl ⟨h1,h2⟩)
 |false=>
  refine sx (n:={n with links:=dv gj (fY a b) n.links}) fun i v w hv C9=>?_;have bH:=K4 bJ.rise hv C9;have ry:=Xl hv;have ci:=Yd C9;unfold kS;cases hc:dR v w with
  |false=>rw[Bool.and_false]
  |true=>
   rw[YA,beq_eq_false_iff_ne,ne_eq,hjh,CV];rintro (h|h|h)
   ·obtain⟨j,hj⟩:=Zn.1 ci;have:=vI (n:=n) (Rn (n:=n) hj hv bH).symm hv hj (by unfold kS;rw[hc,h];simp);rw[bJ.pe]at this;cases this
   ·have:=K8 hw ry ci h.1 h.2 bH.symm;rw[hc]at this;cases this
   ·have:=K8 hw ci ry h.2 h.1 bH;rw[wU,hc]at this;cases this
theorem UK {y l:Lnk}(h1:1<=y.b/\y.b<=65536)(h2:1<=l.b/\l.b<=65536):gj y < gj l↔y.a < l.a\/(y.a=l.a/\y.b < l.b):=by
 unfold gj;constructor<;>intro h<;>omega
theorem zX (n:Net)(a b:Int):kJ n a b=decide (fY a b∈n.links):=by
 unfold kJ;rw[Yk,XU];simp
theorem Ec {l:List Lnk}(hn:l.Nodup){x:Lnk}{i:Nat}(h:l.findIdx? (fun y=>decide (x=y))=some i):l.filter (fun y=>!decide (y=x))=l.eraseIdx i:=by
 obtain⟨hi,he,-⟩:=XI.1 h;have he:x=l[i]:=by simpa using he
 subst he;have e1:l=l.take i++l[i]::l.drop (i+1):=by rw[<-YR hi,YK]
 have hd:∀j (hj:j < l.length),j≠i->l[j]≠l[i]:=fun j hj lf he=>by
  rcases _i lf with h|h
  ·exact XF.1 hn j i hj hi h he
  ·exact XF.1 hn i j hi hj h he.symm
 have key:∀(A B:List Lnk) (x:Lnk),(∀y∈A,y≠x)->(∀y∈B,y≠x)->(A++x::B).filter (fun y=>!decide (y=x))=A++B:=fun A B x hA hB=>by
  rw[YY,ZF];simp only[decide_true,H',YB,if_false];rw[Y5.2 (fun y hy=>by simpa using hA y hy),Y5.2 (fun y hy=>by simpa using hB y hy)]
 refine(congrArg (List.filter _) e1).trans ((key _ _ _ (fun y hy=>?_) fun y hy=>?_).trans (YI l i).symm)
 ·obtain⟨j,hj,rfl⟩:=X3.1 hy;rw[ZP];rw[Xp]at hj;exact hd j aa aa
 ·obtain⟨j,hj,rfl⟩:=X3.1 hy;rw[List.getElem_drop];rw[XS]at hj;exact hd (i+1+j) aa aa
theorem Ha {n:Net}(bJ:NetOK n):n.links.Nodup:=bJ.lsort.imp fun h e=>by rw[e]at h;omega
theorem NK (n:Net)(a b:Int)(hz:Bk n):ai prog 81 [.agg (cQ n),.v (.int .i64 a),.v (.int .i64 b)] (.tup [.agg (cQ (jv n a b).1),.v (.int .i64 (jv n a b).2)]):=by
 obtain⟨R,hR⟩:∃R,R=jv n a b:=⟨_,rfl⟩;rw[<-hR];replace hR:=Xj hR;have bp:=kC n hz;by_cases hc:cN n=0
 ·have bJ:=iq.1 hc;have Si:=bJ.n12;have iM:=oB n bJ.n6 bJ.n12 bJ.vp;have S4:=vH n a b aa;rw[zX]at S4;rw[hc]at bp;have gz:fY a b∈n.links↔(n.links.findIdx? (fun l=>decide (fY a b=l))).isSome=true:=by
   rw[List.findIdx?_isSome,XU];simp
  cases hf:n.links.findIdx? (fun l=>decide (fY a b=l))with
  |none=>
   have OD:fY a b∉n.links:=fun h=>by rw[gz,hf]at h;cases h
   have hr:R=(Net.zero,5):=by rw[hR.out];unfold jv;rw[af (by simpa using hc),hf]
   rw[decide_eq_false OD]at S4;rw[hr];clear hr hR hf hc bJ OD gz;refine pj func81 ntmps81 results81 ?_;refine ap ?_<;>intros;all_goals exact dg
  |some i=>
   have JZ:fY a b∈n.links:=by rw[gz,hf];rfl
   have hr:R=({n with links:=n.links.filter fun y=>!decide (y=fY a b)},0):=by rw[hR.out];unfold jv;rw[af (by simpa using hc),hf,Ec (Ha bJ) hf]
   rw[decide_eq_true JZ]at S4;replace hr:=Xj hr;clear hR hf hc bJ JZ gz;refine pj func81 ntmps81 results81 ?_;have z1z:=Ln.mk (ls:=[]) (iM);refine ap ?_<;>intros;clear iM bp S4;refine bQ ag am (fun m e h=>∃(k g:Nat),k<=n.links.length/\m=n.links.length - k/\
    e=[(10,.d (.v (.int .i64 k))),(9,.ptr 7 0),(7,.d (.v (.int .i64 0))),(6,.ptr 1 0),(3,.ptr 0 0),(2,.d (.v (.int .i64 b))),(1,.d (.v (.int .i64 a)))]/\h=[.box 34 ((cQ n).map .d),.box 34 [.d (.v (.slice none 0 0)),.d (.v (.slice none 0 0))],.gone,.gone,.row 91 2 1 (ab (n.links.map cP)),.gone,.row 88 3 n.vpcs.length (ab (n.vpcs.map ax)),.box 34 [.own 6 n.vpcs.length,.own 8 g],.row 91 2 g (ab (((n.links.take k).filter fun y=>!decide (y=fY a b)).map cP))]) _ _ _ ⟨0,0,XD _,rfl,rfl,rfl⟩ ?_ ?_
   ·refine(ay ah 7 34 [.own 6 n.vpcs.length,.d (.v (.slice none 0 0))] 1 91 2 rfl rfl rfl).trans ?_;exact wf
   ·rintro m e h ⟨k,g,hk,hm,rfl,rfl⟩ C hC;replace hm:=Xj hm;by_cases hlt:k < n.links.length
    ·have eo:(k:Int) < (n.links.length:Int):=aa;have db:=wi k aa;obtain⟨y,hy⟩:∃y,n.links[k]? =some y:=⟨_,Xk hlt⟩;have he:([y.a,y.b] !=[if b < a then b else a,if a < b then b else a])=!decide (y=fY a b):=congrArg (fun t=>!t) (zG y (fY a b));have gX:((n.links.take k).filter fun y=>!decide (y=fY a b)).length<=k:=by
      have:=Ze (fun y=>!decide (y=fY a b)) (n.links.take k);rw[Xp]at this;omega
     have j7:((n.links.take k).filter fun y=>!decide (y=fY a b)).length+1<=100:=aa;have ec:=vJ (f:=fun y=>!decide (y=fY a b)) hy;replace ec:=Xj ec;replace gX:=Xj gX;generalize (n.links.take k).filter (fun y=>!decide (y=fY a b))=L at*;cases b1:decide (y=fY a b)with
     |true=>
      rw[b1]at ec he;refine ap ?_<;>intros;refine hC _ _ _ _ _ ?_ ⟨k+1,g,hlt,rfl,rfl,rfl⟩ (wf (hh:=(by rw[ec.out];simp only[cQ,H',YB,if_false];rfl)));have:=hm.out;omega
     |false=>
      rw[b1]at ec he;refine ap ?_<;>intros;refine hC _ _ _ _ _ ?_ ⟨k+1,g+1,hlt,rfl,rfl,rfl⟩ (wf (hh:=(by rw[ec.out];simp only[cQ,Bool.not_false,if_true,Xo,Xm,Xr,<-aI];rfl)));have:=hm.out;omega
    ·obtain rfl:k=n.links.length:=aa;(try rw[Xq])
     have lD:=hr.out;rw[lD];replace lD:=Xj lD;clear hC;exact bc;all_goals exact dg
 ·have h1:(cN n !=0)=true:=by simpa using hc
  have hr:R=(Net.zero,cN n):=by rw[hR.out];unfold jv;rw[aj hc]
  rw[hr];replace hr:=Xj hr;clear hR;refine pj func81 ntmps81 results81 ?_;refine ap ?_<;>intros;exact dg
theorem NL (n:Net)(a b:Int)(hz:Bk n):ai prog 80 [.agg (cQ n),.v (.int .i64 a),.v (.int .i64 b)] (.tup [.agg (cQ (kf n a b).1),.v (.int .i64 (kf n a b).2)]):=by
 obtain⟨R,hR⟩:∃R,R=kf n a b:=⟨_,rfl⟩;rw[<-hR];replace hR:=Xj hR;have bp:=kC n hz;by_cases hc:cN n=0
 ·have bJ:=iq.1 hc;have h6:=bJ.n6;have Si:=bJ.n12;have uF:R=if ef n a b≠0 then (Net.zero,ef n a b)else ({n with links:=dv gj (fY a b) n.links},0):=by rw[hR.out];unfold kf;rw[af (by simpa using hc)]
  rw[hc]at bp;by_cases iA:a=b
  ·have a0B:(a==b)=true:=by simpa using iA
   have hr:R=(Net.zero,3):=by rw[uF,show ef n a b=3 by unfold ef;rw[aj iA]];rfl
   rw[hr];clear hr hR uF bJ hc;replace iA:=Xj iA;refine pj func80 ntmps80 results80 ?_;refine ap ?_<;>intros;all_goals exact dg
  have a0B:(a==b)=false:=by simpa using iA
  have lA:=iF n a aa;have lw:=iF n b aa;rw[kY]at lA lw;have Bt:decide ((-1:Int) < 0)=true:=rfl;cases EJ:fl n a with
  |none=>
   rw[EJ]at lA;simp only at lA;have hr:R=(Net.zero,5):=by rw[uF,show ef n a b=5 by unfold ef;rw[af iA,ek EJ];simp];rfl
   rw[hr];clear hr hR uF bJ hc EJ lw;replace iA:=Xj iA;refine pj func80 ntmps80 results80 ?_;refine ap ?_<;>intros;all_goals exact dg
  |some ia=>
  rw[EJ]at lA;simp only at lA;obtain⟨va,Vw,Vs,Vt,xD⟩:=eL EJ;have a3x:decide ((ia:Int) < 0)=false:=ah;cases po:fl n b with
  |none=>
   rw[po]at lw;simp only at lw;have hr:R=(Net.zero,5):=by rw[uF,show ef n a b=5 by unfold ef;rw[af iA,ek po];simp];rfl
   rw[hr];clear hr hR uF bJ hc EJ po Vw Vs xD;replace iA:=Xj iA;refine pj func80 ntmps80 results80 ?_;refine ap ?_<;>intros;all_goals exact dg
  |some ib=>
  rw[po]at lw;simp only at lw;obtain⟨vb,R3,heb,hib,BA⟩:=eL po;have a3y:decide ((ib:Int) < 0)=false:=ah;have S4:=vH n a b aa;rw[zX]at S4;have LD:=Ju bJ a b;have aQ:R=if fY a b∈n.links then (Net.zero,6)else if zW n a b=true then (Net.zero,9)else if n.links.length+1>12 then (Net.zero,2)else ({n with links:=dv gj (fY a b) n.links},0):=by
   rw[uF];unfold ef;rw[af iA,xD,BA,LD];simp only[reduceCtorEq,or_self,if_false];split
   ·rfl
   ·cases zW n a b
    ·simp only[Bool.not_false,Bool.true_eq_false,if_false];split<;>rfl
    ·rfl
  clear hR uF LD;by_cases d9:fY a b∈n.links
  ·have hr:R=(Net.zero,6):=by rw[aQ,aj d9]
   rw[decide_eq_true d9]at S4;rw[hr];clear hr aQ bJ hc EJ po Vw Vs xD R3 heb BA d9;replace iA:=Xj iA;refine pj func80 ntmps80 results80 ?_;refine ap ?_<;>intros;all_goals exact dg
  rw[af d9]at aQ;rw[decide_eq_false d9]at S4;have a0G:∀l∈n.links,l.a∈n.vpcs.map (·.id)/\l.b∈n.vpcs.map (·.id)/\l.a < l.b:=fun l hl=>by
   have:=bJ.lk l hl;unfold lM at this;simp only[Xt,decide_eq_true_eq]at this;exact⟨fM this.1,fM this.2.1,this.2.2⟩
  have hga:=zT n a ia EJ h6 Si bJ.rise a0G;have SS:=zT n b ib po h6 Si bJ.rise a0G;have a3b:=D8 n a;have a3c:=D8 n b;have SB:∀(k:Nat) (x:Int),(qq n a)[k]? =some x->∃j w,n.vpcs[j]? =some w/\w.id=x/\fl n x=some j/\bg n x=bg n a:=fun k x h=>Jp bJ.rise h;have SC:∀(k:Nat) (x:Int),(qq n b)[k]? =some x->∃j w,n.vpcs[j]? =some w/\w.id=x/\fl n x=some j/\bg n x=bg n b:=fun k x h=>Jp bJ.rise h;have SD:∀w∈n.vpcs,bg n w.id=bg n a->w.id∈qq n a:=fun w hw h=>D7 hw h;have SE:∀w∈n.vpcs,bg n w.id=bg n b->w.id∈qq n b:=fun w hw h=>D7 hw h;have iM:=oB n bJ.n6 bJ.n12 bJ.vp;have Vx:∀(i j:Nat) (u v:Vpc),n.vpcs[i]? =some u->n.vpcs[j]? =some v->u.id=v.id->u=v:=fun i j u v hu hv h=>by
   have e1:=qx bJ.rise hu;have e2:=qx bJ.rise hv;rw[h,e2]at e1;cases e1;rw[hu]at hv;exact XW.inj hv
  have kh:∀l∈n.links,1<=l.b/\l.b<=65536:=fun l hl=>bJ.bd (bJ.ids l hl).2;have HX:1<=(fY a b).b/\(fY a b).b<=65536:=by
   have h1:=bJ.bd (fM (n:=n) (x:=a) (by rw[xD];rfl));have h2:=bJ.bd (fM (n:=n) (x:=b) (by rw[BA];rfl));rcases vD a b with⟨e,-⟩|⟨e,-⟩
   ·rw[e];exact h2
   ·rw[e];exact h1
  have xE:=bJ.lsort;have bH:∀y∈n.links,gj y≠gj (fY a b):=fun y hy e=>d9 (by rw[<-GE (kh y hy) HX e];exact hy);have hrg:∀(j:Nat) (w:Vpc),n.vpcs[j]? =some w->w.ranges.length<=4:=fun j w hw=>(aY (bJ.vp w (Xl hw))).n4;have OD:∀(i j:Nat) (v w:Vpc),n.vpcs[i]? =some v->n.vpcs[j]? =some w->bg n v.id=bg n a->bg n w.id=bg n b->v.id≠w.id->dR v w=true->zW n a b=true:=fun i j v w hv hw h1 h2 h3 h4=>K7 (Xl hv) (Xl hw) h1 h2 h3 h4;clear bJ hc EJ po Vw Vs xD R3 heb BA d9 a0G;replace aQ:=Xj aQ;replace SB:=Xj SB;replace SC:=Xj SC;replace SD:=Xj SD;replace SE:=Xj SE;replace kh:=Xj kh;replace HX:=Xj HX;replace xE:=Xj xE;replace bH:=Xj bH;replace hrg:=Xj hrg;replace OD:=Xj OD;replace Vx:=Xj Vx;replace iA:=Xj iA;obtain⟨GA,hGA⟩:∃GA,GA=qq n a:=⟨_,rfl⟩;obtain⟨GB,hGB⟩:∃GB,GB=qq n b:=⟨_,rfl⟩;rw[<-hGA]at hga a3b SB SD;rw[<-hGB]at SS a3c SC SE;clear hGA hGB;refine pj func80 ntmps80 results80 ?_;refine ap ?_<;>intros;clear bp lA lw S4 hga SS;refine bf ag am GA (fun i=>∀v∈n.vpcs,∀w∈n.vpcs,v.id∈GA.take i->w.id∈GB->v.id≠w.id->dR v w=false) (fun i=>[(11,.d (.v (.int .i64 i))),(10,.d (.sl 1 (GB.map cF))),(9,.d (.sl 1 (GA.map cF))),(7,.d (.v (.int .i64 0))),(6,.ptr 1 0),(3,.ptr 0 0),(2,.d (.v (.int .i64 b))),(1,.d (.v (.int .i64 a)))]) (fun _=>[.box 34 ((cQ n).map .d),.box 34 [.d (.v (.slice none 0 0)),.d (.v (.slice none 0 0))]]) ah (wf) ?_ ?_
  ·intro i x hx hi hI C hC;have V5:(i:Int) < (GA.length:Int):=aa;have Da:=wi i aa;obtain⟨p,v,hv,J5,hpx,hhx⟩:=SB.out i x hx;have ec:(∀w∈n.vpcs,w.id∈GB->v.id≠w.id->dR v w=false)->∀v∈n.vpcs,∀w∈n.vpcs,v.id∈GA.take (i+1)->w.id∈GB->v.id≠w.id->dR v w=false:=fun h u hu w hw hug hwg bH=>by
    rw[ak hx]at hug;rcases X0.1 hug with hug|hug
    ·exact hI u hu w hw hug hwg bH
    ·have e1:u.id=x:=X7.1 hug;obtain⟨q,hq⟩:=Zn.1 hu;have e3:u=v:=Vx.out q p u v hq hv (e1.trans J5.symm);rw[e3]at bH ⊢;exact h w hw hwg bH
   replace hI:=Xj hI;replace ec:=Xj ec;refine ap ?_<;>intros;refine bf ag am GB (fun j=>∀w∈n.vpcs,w.id∈GB.take j->v.id≠w.id->dR v w=false) (fun j=>[(12,.d (.v (.int .i64 j))),(11,.d (.v (.int .i64 i))),(10,.d (.sl 1 (GB.map cF))),(9,.d (.sl 1 (GA.map cF))),(7,.d (.v (.int .i64 0))),(6,.ptr 1 0),(3,.ptr 0 0),(2,.d (.v (.int .i64 b))),(1,.d (.v (.int .i64 a)))]) (fun _=>[.box 34 ((cQ n).map .d),.box 34 [.d (.v (.slice none 0 0)),.d (.v (.slice none 0 0))]]) ah (wf) ?_ ?_
   ·intro j y hy hj hJ C2 j6;have lz:(j:Int) < (GB.length:Int):=aa;have nI:=wi j aa;obtain⟨q,w,hw,S6,hqy,hhy⟩:=SC.out j y hy;have EP:(x≠y->dR v w=false)->∀w∈n.vpcs,w.id∈GB.take (j+1)->v.id≠w.id->dR v w=false:=fun h u hu hug bH=>by
     rw[ak hy]at hug;rcases X0.1 hug with hug|hug
     ·exact hJ u hu hug bH
     ·have e1:u.id=y:=X7.1 hug;obtain⟨r,hr⟩:=Zn.1 hu;have e3:u=w:=Vx.out r q u w hr hw (e1.trans S6.symm);rw[e3]at bH ⊢;exact h (by rw[<-J5,<-S6];exact bH)
    by_cases LI:x=y
    ·have e1:(x !=y)=false:=by simpa using LI
     have hn:=EP fun h=>absurd LI h;clear EP hJ;replace hn:=Xj hn;replace LI:=Xj LI;replace J5:=Xj J5;replace S6:=Xj S6;refine ap ?_<;>intros;exact j6 _ _ hn.out (wf)
    ·have e1:(x !=y)=true:=by simpa using LI
     have a2d:=iF n x aa;have a2e:=iF n y aa;rw[kY,hpx]at a2d;rw[kY,hqy]at a2e;simp only at a2d a2e;have uE:=hrg.out p v hv;have lD:=hrg.out q w hw;have gU:=G4 v w aa aa;have hp0:(0:Int)<=(p:Int):=aa;have hq0:(0:Int)<=(q:Int):=aa;have jC:(p:Int) < (n.vpcs.length:Int):=by have:=(Xn.1 hv).1;omega
     have vZ:(q:Int) < (n.vpcs.length:Int):=by have:=(Xn.1 hw).1;omega
     clear uE lD;replace hJ:=Xj hJ;replace hpx:=Xj hpx;replace hqy:=Xj hqy;cases hb:dR v w with
     |true=>
      have hr:R=(Net.zero,9):=by
       rw[aQ.out,aj (OD.out p q v w hv hw (by rw[J5];exact hhx) (by rw[S6];exact hhy) (by rw[J5,S6];exact LI) hb)]
      rw[hb]at gU;rw[hr];clear hr EP hb hhx hhy;replace LI:=Xj LI;replace J5:=Xj J5;replace S6:=Xj S6;refine ap ?_<;>intros;all_goals exact dg
     |false=>
      have hn:=EP fun _=>hb;rw[hb]at gU;clear EP hb hhx hhy;replace hn:=Xj hn;replace LI:=Xj LI;replace J5:=Xj J5;replace S6:=Xj S6;refine ap ?_<;>intros;exact j6 _ _ hn.out (wf)
   ·intro hJ C2;rw[Xq]at hJ;have hn:=ec.out hJ;replace hJ:=Xj hJ;replace hn:=Xj hn;replace J5:=Xj J5;refine ap ?_<;>intros;exact hC _ _ hn.out (wf)
  ·intro hI C;rw[Xq]at hI;have a2f:zW n a b=false:=by
    cases hw:zW n a b with
    |false=>rfl
    |true=>
     unfold zW at hw;obtain⟨v,hv,h⟩:=XU.1 hw;rw[Xt,beq_iff_eq]at h;obtain⟨h1,h⟩:=h;obtain⟨w,hw,h⟩:=XU.1 h;simp only[Xt,beq_iff_eq,bne_iff_ne,ne_eq]at h;obtain⟨h2,h3,h4⟩:=h;rw[hI v hv w hw (SD.out v hv h1) (SE.out w hw h2) h3]at h4;cases h4
   have go:R=if n.links.length+1>12 then (Net.zero,2)else ({n with links:=dv gj (fY a b) n.links},0):=by rw[aQ.out,a2f,af ah]
   clear hI a2f SD SE SB SC OD;by_cases Vy:n.links.length=12
   ·have hd:decide ((n.links.length:Int)>=12)=true:=aK;have hr:R=(Net.zero,2):=by rw[go,aj aa]
    rw[hr];clear hr go;replace Vy:=Xj Vy;refine ap ?_<;>intros;all_goals exact dg
   ·have hd:decide ((n.links.length:Int)>=12)=false:=aK;have hr:R=({n with links:=dv gj (fY a b) n.links},0):=by rw[go,af aa]
    have j7:n.links.length+1<=100:=aa;have hwl:IntKind.i64.wrap (((n.links.length+1:Nat):Int) - 1)=(n.links.length:Int):=by rw[IntKind.wrap_i64];omega
    clear go;replace hr:=Xj hr;replace Vy:=Xj Vy;have pp:fY a b=⟨if b < a then b else a,if a < b then b else a⟩:=rfl;have z1z:=Ln.mk (ls:=[]) (iM);refine ap ?_<;>intros;clear iM;refine bQ ag am (fun m e h=>∃(q:Nat) (out:List Lnk),Eb gj (fY a b) n.links q out/\out.length=n.links.length+1/\m=q/\e=[(14,.d (.v (.int .i64 q))),(13,.ptr 7 0),(7,.d (.v (.int .i64 0))),(6,.ptr 1 0)]/\
     h=[.box 34 ((cQ n).map .d),.box 34 [.d (.v (.slice none 0 0)),.d (.v (.slice none 0 0))],.gone,.gone,.row 91 2 2 (ab (out.map cP)),.gone,.row 88 3 n.vpcs.length (ab (n.vpcs.map ax)),.box 34 [.own 6 n.vpcs.length,.own 4 2]]) _ _ _ ⟨n.links.length,n.links++[fY a b],Rj,by simp,rfl,rfl,rfl⟩ (wf (hh:=(by rw[Xo];rfl)) (hb:=cK) (hbh:=cK)) ?_
    rintro m e h ⟨q,out,xb,pM,hm,rfl,rfl⟩ C2 j6;clear pp;generalize fY a b=LK at*;have vZ:=xb.1;have hx:=Rk xb;replace xb:=Xj xb;replace hm:=Xj hm;by_cases h0:0 < q
    ·have hq0:decide ((q:Int)>0)=true:=aK;obtain⟨y,hy⟩:∃y,n.links[q - 1]? =some y:=⟨_,Xk aa⟩;have SZ:=Rl xb.out h0 hy;have C9:IntKind.i64.wrap ((q:Int) - 1)=((q - 1:Nat):Int):=by rw[IntKind.wrap_i64];omega
     have qD:q < out.length:=aa;have hq3:q - 1 < out.length:=aa;have xT:=UK (kh.out y (Xl hy)) HX.out;have LH:=bH.out y (Xl hy);replace pM:=Xj pM;replace h0:=Xj h0;replace hy:=Xj hy;by_cases hlt:gj y < gj LK
     ·have he:=CU xb.out xE.out (fun z _ hz=>by
       rw[hy.out]at hz;rw[<-XW.inj hz];exact hlt)
      have lD:=hr.out;rw[<-he]at lD;rw[lD];have eV:=xT.1 hlt;clear xT LH hlt;replace lD:=Xj lD;replace he:=Xj he;by_cases pp:y.a < LK.a
      ·have e1:decide (y.a < LK.a)=true:=by simpa using pp
       clear eV pp;exact bc;all_goals exact dg
      ·have e1:decide (y.a < LK.a)=false:=by simpa using pp
       have e2:(y.a==LK.a)=true:=aK;have e3:decide (y.b < LK.b)=true:=aK;clear eV pp;exact bc;all_goals exact dg
     ·have eV:¬(y.a < LK.a\/(y.a=LK.a/\y.b < LK.b)):=fun h=>hlt (xT.2 h);have iO:=Rm xb.out h0.out hy.out (show gj y>gj LK by omega);clear xT LH hlt;replace iO:=Xj iO;have e1:decide (y.a < LK.a)=false:=aK;have Bq:∀X:List PV,((ab (out.map cP)).set (q - 1) X)[q]? =some [.d (.v (.int .i64 LK.a)),.d (.v (.int .i64 LK.b))]:=fun X=>by
       rw[Q' (by have:=h0.out;omega),iC,Xy,hx];rfl
      by_cases pp:y.a=LK.a
      ·have e2:(y.a==LK.a)=true:=by simpa using pp
       have e3:decide (y.b < LK.b)=false:=aK;clear eV pp;refine ap ?_<;>intros;refine j6 _ _ _ _ _ ?_ ⟨q - 1,(out.set (q - 1) LK).set q y,iO.out,by rw[YX,YX];exact pM.out,rfl,rfl,rfl⟩ (wf (hh:=(by simp only[Z7,ab];rfl)) (hb:=cK) (hbh:=cK));have:=hm.out;have:=h0.out;omega
      ·have e2:(y.a==LK.a)=false:=by simpa using pp
       clear eV pp;refine ap ?_<;>intros;refine j6 _ _ _ _ _ ?_ ⟨q - 1,(out.set (q - 1) LK).set q y,iO.out,by rw[YX,YX];exact pM.out,rfl,rfl,rfl⟩ (wf (hh:=(by simp only[Z7,ab];rfl)) (hb:=cK) (hbh:=cK));have:=hm.out;have:=h0.out;omega
    ·have hq0:decide ((q:Int)>0)=false:=aK;have he:=CU xb.out xE.out (fun z h _=>absurd h h0);have lD:=hr.out;rw[<-he]at lD;rw[lD];replace lD:=Xj lD;replace he:=Xj he;replace h0:=Xj h0;replace pM:=Xj pM;exact bc;all_goals exact dg
 ·have h1:(cN n !=0)=true:=by simpa using hc
  have hr:R=(Net.zero,cN n):=by rw[hR.out];unfold kf;rw[aj hc]
  rw[hr];replace hr:=Xj hr;clear hR;refine pj func80 ntmps80 results80 ?_;refine ap ?_<;>intros;exact dg
theorem zY {α:Type}{l m:List α}{k:Nat}{x y:α}(hx:l[k]? =some x)(hy:m[k]? =some y)(h:l.take k=m.take k)(e:x=y):l.take (k+1)=m.take (k+1):=by rw[ak hx,ak hy,h,e]
theorem zZ {α:Type}{l m:List α}(hl:l.length=m.length)(h:l.take l.length=m.take l.length):l=m:=by
 rw[Xq,hl,Xq]at h;exact h
theorem Jv (v w:Vpc)(ry:v.ranges.length<=1000000000)(Od:v.subs.length<=1000000000)(hv3:∀s∈v.subs,s.faces.length<=1000000000/\∀f∈s.faces,f.addrs.length<=1000000000)(rl:∀s∈w.subs,∀f∈s.faces,f.addrs.length<=1000000000):ai prog 57 [.agg (ax v),.agg (ax w)] (.v (.bool (decide (v=w)))):=by
 obtain⟨R,hR⟩:∃R,R=decide (v=w):=⟨_,rfl⟩;rw[<-hR];replace hR:=Xj hR;have cg:v≠w->R=false:=fun h=>by rw[hR.out];exact decide_eq_false h
 replace cg:=Xj cg;replace hv3:=Xj hv3;replace rl:=Xj rl;by_cases c1:v.id=w.id/\v.ranges.length=w.ranges.length/\v.subs.length=w.subs.length
 ·obtain⟨e1,e2,e3⟩:=c1;have d1:(v.id !=w.id)=false:=by simp[e1]
  have d2:((v.ranges.length:Int) !=(w.ranges.length:Int))=false:=by simp[e2]
  have d3:((v.subs.length:Int) !=(w.subs.length:Int))=false:=by simp[e3]
  replace e1:=Xj e1;replace e2:=Xj e2;replace e3:=Xj e3;refine pj func57 ntmps57 results57 ?_;refine ap ?_<;>intros;refine bf ag am v.ranges (fun k=>v.ranges.take k=w.ranges.take k) (fun k=>[(5,.d (.v (.int .i64 k))),(4,.d (.v (.bool false))),(3,.ptr 1 0),(2,.ptr 0 0)]) (fun _=>[.box 88 ((ax v).map .d),.box 88 ((ax w).map .d)]) rfl (wf) ?_ ?_
  ·intro k x hx hk hI C hC;have eo:(k:Int) < (v.ranges.length:Int):=aa;have db:=wi k aa;obtain⟨y,hy⟩:∃y,w.ranges[k]? =some y:=⟨_,Xk (by rw[<-e2.out];exact hk)⟩;replace hI:=Xj hI;have he:=zA x y;by_cases h1:x=y
   ·have nL:=Xj (zY hx hy hI.out h1);rw[decide_eq_true h1]at he;replace h1:=Xj h1;have z1z:=@bne.eq_1 (List Int) _;have z2z:=@bne.eq_1 Int _;refine ap ?_<;>intros;exact hC _ _ nL.out (wf)
   ·have hb:R=false:=cg.out (fun e=>h1 (by subst e;rw[hx]at hy;exact XW.inj hy));rw[decide_eq_false h1]at he;rw[hb];replace hb:=Xj hb;replace h1:=Xj h1;have z1z:=@bne.eq_1 (List Int) _;have z2z:=@bne.eq_1 Int _;exact bc;all_goals exact aP.refl _
  ·intro hI C;have oG:=Xj (zZ e2.out hI);replace hI:=Xj hI;refine ap ?_<;>intros;clear hI;refine bf ag am v.subs (fun k=>v.subs.take k=w.subs.take k) (fun k=>[(6,.d (.v (.int .i64 k))),(4,.d (.v (.bool false))),(3,.ptr 1 0),(2,.ptr 0 0)]) (fun _=>[.box 88 ((ax v).map .d),.box 88 ((ax w).map .d)]) rfl (wf) ?_ ?_
   ·intro k x hx hk hI C hC;have eo:(k:Int) < (v.subs.length:Int):=aa;have db:=wi k aa;obtain⟨y,hy⟩:∃y,w.subs[k]? =some y:=⟨_,Xk (by rw[<-e3.out];exact hk)⟩;have H2:=hv3.out x (Xl hx);have uv:=rl.out y (Xl hy);have a3z:=H2.1;have a3d:=Xj H2.2;clear H2;replace uv:=Xj uv;have bL:x≠y->R=false:=fun h=>cg.out (fun e=>h (by subst e;rw[hx]at hy;exact XW.inj hy));replace bL:=Xj bL;replace hI:=Xj hI;have he:=zC x.at_ y.at_;by_cases c2:x.id=y.id/\x.at_=y.at_/\x.faces.length=y.faces.length
    ·obtain⟨f1,f2,f3⟩:=c2;have g1:(x.id==y.id)=true:=by simp[f1]
     have g3:((x.faces.length:Int)==(y.faces.length:Int))=true:=by simp[f3]
     rw[decide_eq_true f2]at he;replace f1:=Xj f1;replace f2:=Xj f2;replace f3:=Xj f3;have z1z:=@bne.eq_1 (List Int) _;have z2z:=@bne.eq_1 Int _;refine ap ?_<;>intros;refine bf ag am x.faces (fun j=>x.faces.take j=y.faces.take j) (fun j=>[(9,.d (.v (.int .i64 j))),(8,.ptr 3 0),(7,.ptr 2 0),(6,.d (.v (.int .i64 k))),(4,.d (.v (.bool false))),(3,.ptr 1 0),(2,.ptr 0 0)]) (fun _=>[.box 88 ((ax v).map .d),.box 88 ((ax w).map .d),.box 107 ((aX x).map .d),.box 107 ((aX y).map .d)]) rfl (wf) ?_ ?_
     ·intro j f hf hj hJ C2 j6;have lz:(j:Int) < (x.faces.length:Int):=aa;have nI:=wi j aa;obtain⟨g,hg⟩:∃g,y.faces[j]? =some g:=⟨_,Xk (by rw[<-f3.out];exact hj)⟩;have H5:=Ja f.addrs g.addrs (a3d.out f (Xl hf)) (uv.out g (Xl hg));have Bv:f≠g->R=false:=fun h=>bL.out (fun e=>h (by subst e;rw[hf]at hg;exact XW.inj hg));replace Bv:=Xj Bv;replace hJ:=Xj hJ;by_cases i1:f.id=g.id
      ·have n1:(f.id==g.id)=true:=by simp[i1]
       by_cases i2:f.addrs=g.addrs
       ·rw[decide_eq_true i2]at H5;have hfg:f=g:=by cases f;cases g;simp at i1 i2;rw[i1,i2]
        have EP:=Xj (zY hf hg hJ.out hfg);replace hfg:=Xj hfg;replace i1:=Xj i1;replace i2:=Xj i2;have z1z:=@bne.eq_1 (List Int) _;have z2z:=@bne.eq_1 Int _;refine ap ?_<;>intros;exact j6 _ _ EP.out (wf)
       ·rw[decide_eq_false i2]at H5;have hb:R=false:=Bv.out (fun e=>i2 (by rw[e]));rw[hb];replace hb:=Xj hb;replace i1:=Xj i1;replace i2:=Xj i2;have z1z:=@bne.eq_1 (List Int) _;have z2z:=@bne.eq_1 Int _;exact bc;all_goals exact aP.refl _
      ·have n1:(f.id==g.id)=false:=by simpa using i1
       have hb:R=false:=Bv.out (fun e=>i1 (by rw[e]));rw[hb];replace hb:=Xj hb;replace i1:=Xj i1;have z1z:=@bne.eq_1 (List Int) _;have z2z:=@bne.eq_1 Int _;exact bc;all_goals exact aP.refl _
     ·intro hJ C2;have Vk:=zZ f3.out hJ;have LI:x=y:=by
       have h1:=f1.out;have h2:=f2.out;cases x;cases y;simp at h1 h2 Vk;rw[h1,h2,Vk]
      have nL:=Xj (zY hx hy hI.out LI);replace hJ:=Xj hJ;replace Vk:=Xj Vk;replace LI:=Xj LI;refine ap ?_<;>intros;exact hC _ _ nL.out (wf)
    ·have hb:R=false:=bL.out (fun e=>c2 ⟨by rw[e],by rw[e],by rw[e]⟩);rw[hb];replace hb:=Xj hb;rw[Decidable.not_and_iff_or_not,Decidable.not_and_iff_or_not]at c2;rcases c2 with c2|c2|c2
     ·have g1:(x.id==y.id)=false:=by simpa using c2
      replace c2:=Xj c2;have z1z:=@bne.eq_1 (List Int) _;have z2z:=@bne.eq_1 Int _;exact bc;all_goals exact aP.refl _
     ·rw[decide_eq_false c2]at he;replace c2:=Xj c2;have z1z:=@bne.eq_1 (List Int) _;have z2z:=@bne.eq_1 Int _;exact bc;all_goals exact aP.refl _
     ·have g3:((x.faces.length:Int)==(y.faces.length:Int))=false:=aK;replace c2:=Xj c2;cases hd:decide (x.at_=y.at_);all_goals
       rw[hd]at he;replace hd:=Xj hd;have z1z:=@bne.eq_1 (List Int) _;have z2z:=@bne.eq_1 Int _;exact bc;all_goals exact aP.refl _
   ·intro hI C;have SY:=zZ e3.out hI;have hb:R=true:=by
     rw[hR.out,decide_eq_true_eq];have h1:=e1.out;have h2:=oG.out;cases v;cases w;simp at h1 h2 SY;rw[h1,h2,SY]
    rw[hb];replace hb:=Xj hb;replace hI:=Xj hI;replace SY:=Xj SY;exact bc;all_goals exact aP.refl _
 ·have hb:R=false:=cg.out (fun e=>c1 ⟨by rw[e],by rw[e],by rw[e]⟩);rw[hb];replace hb:=Xj hb;rw[Decidable.not_and_iff_or_not,Decidable.not_and_iff_or_not]at c1;rcases c1 with c1|c1|c1
  ·have g1:(v.id==w.id)=false:=by simpa using c1
   replace c1:=Xj c1;refine pj func57 ntmps57 results57 ?_;have z1z:=@bne.eq_1 (List Int) _;have z2z:=@bne.eq_1 Int _;exact bc;all_goals exact aP.refl _
  ·have g1:((v.ranges.length:Int)==(w.ranges.length:Int))=false:=aK;replace c1:=Xj c1;refine pj func57 ntmps57 results57 ?_;have z1z:=@bne.eq_1 (List Int) _;have z2z:=@bne.eq_1 Int _;exact bc;all_goals exact aP.refl _
  ·have g1:((v.subs.length:Int)==(w.subs.length:Int))=false:=aK;replace c1:=Xj c1;refine pj func57 ntmps57 results57 ?_;have z1z:=@bne.eq_1 (List Int) _;have z2z:=@bne.eq_1 Int _;exact bc;all_goals exact aP.refl _
def UL (s:Sbn):Prop:=s.faces.length<=1000000000/\∀f∈s.faces,f.addrs.length<=1000000000
def K9 (v:Vpc):Prop:=v.ranges.length<=1000000000/\v.subs.length<=1000000000/\∀s∈v.subs,UL s
def lu (n:Net):Prop:=n.vpcs.length<=1000000000/\n.links.length<=1000000000/\∀v∈n.vpcs,K9 v
theorem Jw (n:Net)(h:lu n):ai prog 29 [.agg (cQ n),.agg (cQ n)] (.v (.bool true)):=by
 obtain⟨h1,h2,h3⟩:=h;replace h3:=Xj h3;refine pj func29 ntmps29 results29 ?_;refine ap ?_<;>intros;refine bf ag am n.vpcs (fun _=>True) (fun k=>[(5,.d (.v (.int .i64 k))),(4,.d (.v (.bool false))),(3,.ptr 1 0),(2,.ptr 0 0)]) (fun _=>[.box 34 ((cQ n).map .d),.box 34 ((cQ n).map .d)]) trivial (wf) ?_ ?_
 ·intro k v hv hk _ C hC;have eo:(k:Int) < (n.vpcs.length:Int):=aa;have db:=wi k aa;have hs:=h3.out v (Xl hv);have lR:=Jv v v hs.1 hs.2.1 (fun s lR=>hs.2.2 s lR) (fun s lR=>(hs.2.2 s lR).2);rw[decide_eq_true rfl]at lR;clear hs;refine ap ?_<;>intros;exact hC _ _ trivial (wf)
 ·intro _ C;refine ap ?_<;>intros;refine bf ag am n.links (fun _=>True) (fun k=>[(6,.d (.v (.int .i64 k))),(4,.d (.v (.bool false))),(3,.ptr 1 0),(2,.ptr 0 0)]) (fun _=>[.box 34 ((cQ n).map .d),.box 34 ((cQ n).map .d)]) trivial (wf) ?_ ?_
  ·intro k l hl hk _ C hC;have eo:(k:Int) < (n.links.length:Int):=aa;have db:=wi k aa;refine ap ?_<;>intros;exact hC _ _ trivial (wf)
  ·intro _ C;exact bc;all_goals exact aP.refl _
theorem dF:lu Net.zero:=⟨XD _,XD _,fun v h=>by simp[Net.zero]at h⟩
theorem Jy {v:Vpc}(h:VpcOK v):K9 v:=⟨by have:=h.n4;omega,by have:=h.n6;omega,fun s hs=>⟨by have:=(h.n8 s hs).1;omega,fun f hf=>by have:=(h.n8 s hs).2 f hf;omega⟩⟩
theorem eY {n:Net}(h:NetOK n):lu n:=⟨by have:=h.n6;omega,by have:=h.n12;omega,fun v hv=>Jy (aY (h.vp v hv))⟩
theorem Hb (n:Net)(id:Int):lu (jx n id).1:=by
 unfold jx;split
 ·exact dF
 ·rename_i hc;have bJ:=iq.1 (by simpa using hc);split
  ·exact dF
  ·obtain⟨a,b,c⟩:=eY bJ;refine⟨?_,b,fun v hv=>?_⟩
   ·show (dv _ _ n.vpcs).length<=_;rw[fL];have:=bJ.n6;omega
   ·rcases og.1 hv with rfl|hv
    ·exact⟨XD _,XD _,fun s hs=>by simp at hs⟩
    ·exact c v hv
theorem Hc (n:Net)(id:Int)(r:Rng):lu (iJ n id r).1:=by
 unfold iJ;split
 ·exact dF
 ·rename_i hc;have bJ:=iq.1 (by simpa using hc);split
  ·exact dF
  ·split
   ·exact dF
   ·split
    ·exact dF
    ·rename_i i hi v hv hg;split
     ·rename_i hp;exact eY (iq.1 ((CS bJ hv (by simpa using hg)).1.2 hp))
     ·exact dF
theorem He (n:Net)(a b:Int):lu (kf n a b).1:=by
 unfold kf;split
 ·exact dF
 ·rename_i hc;have bJ:=iq.1 (by simpa using hc);split
  ·exact dF
  ·obtain⟨x,y,z⟩:=eY bJ;refine⟨x,?_,z⟩;show (dv _ _ n.links).length<=_;rw[fL];have:=bJ.n12;omega
theorem Hf (n:Net)(a b:Int):lu (jv n a b).1:=by
 unfold jv;split
 ·exact dF
 ·rename_i hc;have bJ:=iq.1 (by simpa using hc);split
  ·exact dF
  ·obtain⟨x,y,z⟩:=eY bJ;refine⟨x,?_,z⟩;rename_i i hi;show (n.links.eraseIdx i).length<=_;have:=List.length_eraseIdx_le n.links i;omega
def nj (s:Ste):Prop:=mF s.book/\lu s.net
theorem kD {b:Bok}(h:BookOK b):mF b:=⟨by have:=h.n8;omega,fun p hp=>by have:=h.l32 p hp;omega⟩
theorem pg:nj .zero:=⟨bZ,dF⟩
theorem Hg {b:Bok}(h:BookOK b)(vs:List Vpc)(c:Cmd):mF (oz b vs c).1:=by
 have hb:=kD h;unfold oz;repeat' split
 all_goals first|exact hb|exact GW ..|exact GY ..|exact D4 ..|exact GZ ..|exact wP ..|exact wQ ..
theorem Jz {n:Net}(h:NetOK n)(b:Bok)(c:Cmd):lu (Bh b n c).1:=by
 have hn:=eY h;unfold Bh;repeat' split
 all_goals first|exact hn|exact Hb ..|exact He ..|exact Hf ..
theorem kE {n:Net}(h:NetOK n){v:Vpc}(hv:pc v)(k:Nat):lu {n with vpcs:=n.vpcs.set k v}:=by
 obtain⟨a,b,c⟩:=eY h;refine⟨by show (n.vpcs.set k v).length<=_;rw[YX];exact a,b,fun w hw=>?_⟩;rcases Y9 hw with hw|rfl
 ·exact c w hw
 ·exact hv
theorem Ed {b:Bok}{n:Net}(hb:BookOK b)(hn:NetOK n)(c:Cmd)(k:Nat)(v:Vpc):mF (nG b n c k v).1/\lu (nG b n c k v).2.1:=by
 have h1:=kD hb;have h2:=eY hn;unfold nG;repeat' split
 all_goals refine⟨?_,?_⟩
 all_goals first|exact h1|exact h2|exact wP ..|exact wQ ..|exact Hc ..|exact kE hn (G0 ..) _|exact kE hn (Jl ..) _|exact kE hn (D5 ..) _|exact kE hn (G1 ..) _|exact kE hn (G3 ..) _|exact kE hn (Bj ..) _
theorem Ee {b:Bok}{n:Net}(hb:BookOK b)(hn:NetOK n)(c:Cmd):mF (kA b n c).1/\lu (kA b n c).2.1:=by
 unfold kA;split
 ·exact⟨kD hb,eY hn⟩
 ·split
  ·exact Ed hb hn ..
  ·exact⟨kD hb,eY hn⟩
theorem NN (s:Ste)(c:Cmd):nj (xq s c).1:=by
 unfold xq;by_cases h:iI s=0
 ·obtain⟨Ax,pJ⟩:=ub h;have hb:=dJ Ax;have hn:=iq.1 pJ;rw[af (by simpa using h)];split
  ·exact⟨kD hb,eY hn⟩
  ·unfold D3;split
   ·exact⟨Hg hb ..,eY hn⟩
   ·split
    ·exact⟨kD hb,Jz hn ..⟩
    ·split
     ·exact Ee hb hn c
     ·exact⟨kD hb,eY hn⟩
 ·rw[aj h];exact pg
theorem nj.hz {s:Ste}(h:nj s):∀p∈s.book.pools,p.leases.length<=3518437208882:=fun p hp=>by have:=h.1.2 p hp;omega
theorem nj.nz {s:Ste}(h:nj s):Bk s.net:=fun v hv=>⟨by have:=(h.2.2.2 v hv).2.1;omega,fun x hx=>by have:=((h.2.2.2 v hv).2.2 x hx).1;omega⟩
def d7 (s:Ste)(l:List Cmd):Ste:=l.foldl (fun s c=>(xq s c).1) s
def lc:Ste->List Cmd->List Ans
 |_,[]=>[]
 |s,c::l=>(xq s c).2.1::lc (xq s c).1 l
def rR (l:List Cmd):Ste × List Ans × Int:=if 200 < l.length then (.zero,[],2)else (d7 .zero l,lc .zero l,0)
theorem Aa (s:Ste)(l:List Cmd)(c:Cmd):d7 s (l++[c])=(xq (d7 s l) c).1:=by
 unfold d7;rw[Zm];rfl
theorem Ab:∀(l:List Cmd) (s:Ste) (c:Cmd),lc s (l++[c])=lc s l++[(xq (d7 s l) c).2.1]
 |[],_,_=>rfl
 |d::l,s,c=>by
  show _::lc _ (l++[c])=_;rw[Ab l];rfl
theorem vK:∀(l:List Cmd) (s:Ste),(lc s l).length=l.length
 |[],_=>rfl
 |_::l,s=>by show (lc _ l).length+1=_;rw[vK l];rfl
theorem jA (l:List Cmd):nj (d7 .zero l):=by
 rcases List.eq_nil_or_concat l with rfl|⟨l,c,rfl⟩
 ·exact pg
 ·rw[List.concat_eq_append,Aa];exact NN ..
abbrev NO:=List Int × Int
theorem La:∀{m:List NO}{k:List Int}{v:Int},(∀x∈m,x.1≠k)->nT m k v=m++[(k,v)]
 |[],k,v,_=>rfl
 |(k',x)::m,k,v,h=>by
  unfold nT;rw[af (h _ (List.mem_cons_self ..)),La fun y hy=>h y (Y1 _ hy)];rfl
def upf (m:List NO)(x:NO):List NO:=nT m x.1 x.2
theorem Lb:∀(l m:List NO),(m++l).Pairwise (fun a b=>a.1≠b.1)->l.foldl upf m=m++l
 |[],m,_=>by simp
 |x::l,m,h=>by
  rw[YO];have h1:=(YV.1 h).2.2;have e:upf m x=m++[x]:=La fun y hy=>h1 y hy x (List.mem_cons_self ..);rw[e,Lb l (m++[x]) (by simpa using h)];simp
def JA (p:Pol):List NO:=(p.leases.filter fun l=>l.kind==1).map fun l=>([l.at_.at_,l.at_.len,p.id],l.owner)
def uf (b:Bok):List NO:=b.pools.flatMap JA
theorem Ro (p:Pol)(m:List NO):P3 m p=(JA p).foldl upf m:=by
 unfold P3 JA;generalize p.leases=l;induction l generalizing m with
 |nil=>rfl
 |cons a l ih=>
  rw[YO,ih];unfold Ot;by_cases h:a.kind=1
  ·rw[aj h,List.filter_cons_of_pos (by simpa using h)];rfl
  ·rw[af h,List.filter_cons_of_neg (by simpa using h)]
theorem Rp (b:Bok):xp b=(uf b).foldl upf []:=by
 unfold xp uf;have key:∀(l:List Pol) (m:List NO),l.foldl P3 m=(l.flatMap JA).foldl upf m:=by
  intro l;induction l with
  |nil=>intro m;rfl
  |cons p l ih=>intro m;rw[YO,ih,Zy,Zm,Ro]
 exact key _ _
theorem kF {b:Bok}(h:BookOK b):(uf b).Pairwise fun x y=>x.1≠y.1:=by
 unfold uf;rw[List.pairwise_flatMap];constructor
 ·intro p hp;have hl:=mA (h.mem p hp).2.1;unfold JA;rw[Y8];exact(hl.filter _).imp fun {a b} iA e=>by simp at e;omega
 ·refine h.rise.imp fun {p q} hpq x hx y hy e=>?_;unfold JA at hx hy;obtain⟨l,-,rfl⟩:=XN.1 hx;obtain⟨l',-,rfl⟩:=XN.1 hy;simp at e;omega
theorem Ef {b:Bok}(h:BookOK b):xp b=uf b:=by
 rw[Rp,Lb _ [] (by simpa using kF h)];rfl
theorem rj:∀{l:List NO},l.Pairwise (fun x y=>x.1≠y.1)->∀{k:List Int}{o:Int},lV l k=some o↔(k,o)∈l
 |[],_,k,o=>by simp[lV]
 |(k',x)::l,h,k,o=>by
  have h':=YC.1 h;unfold lV;by_cases e:k'=k
  ·subst e;rw[aj rfl];constructor
   ·intro hx;cases hx;exact List.mem_cons_self ..
   ·intro hx;rcases X2.1 hx with hx|hx
    ·cases hx;rfl
    ·exact absurd rfl (h'.1 (k',o) hx)
  ·rw[af e,rj h'.2];constructor
   ·exact fun hx=>Y1 _ hx
   ·intro hx;rcases X2.1 hx with hx|hx
    ·cases hx;exact absurd rfl e
    ·exact hx
theorem sP {b:Bok}{k:List Int}{o:Int}:(k,o)∈uf b↔∃p∈b.pools,∃l∈p.leases,l.kind=1/\k=[l.at_.at_,l.at_.len,p.id]/\o=l.owner:=by
 unfold uf JA;simp only[ZY,XN,ZB,Prod.mk.injEq,beq_iff_eq];constructor
 ·rintro⟨p,hp,l,⟨hl,hk⟩,rfl,rfl⟩;exact⟨p,hp,l,hl,hk,rfl,rfl⟩
 ·rintro⟨p,hp,l,hl,hk,rfl,rfl⟩;exact⟨p,hp,l,⟨hl,hk⟩,rfl,rfl⟩
theorem Rq {α:Type}[DecidableEq α]{l m:List α}(hl:l.Nodup)(hm:m.Nodup)(hs:∀x∈l,x∈m):l.length<=m.length/\(l.length=m.length↔∀x∈m,x∈l):=by
 have h1:=hl.length_le_of_subset hs;refine⟨h1,fun h x hx=>?_,fun h=>Nat.le_antisymm h1 (hm.length_le_of_subset h)⟩;refine Classical.byContradiction fun hn=>?_;have h2:(x::l).Nodup:=List.nodup_cons.2 ⟨hn,hl⟩;have h3:=h2.length_le_of_subset (fun y hy=>by
  rcases X2.1 hy with rfl|hy
  ·exact hx
  ·exact hs y hy:(x::l) ⊆ m)
 simp at h3;omega
def Ac (vs:List Vpc):List (List Int):=vs.flatMap fun v=>v.ranges.map fun r=>[r.at_.at_,r.at_.len,r.pool]
theorem NP (vs:List Vpc):(Ac vs).length=qh vs:=by
 unfold Ac qh;rw[List.length_flatMap];simp
theorem Ad {E:List NO}{id:Int}{r:Rng}(hid:id≠0):DR E id r=true↔lV E [r.at_.at_,r.at_.len,r.pool]=some id:=by
 unfold DR;cases h:lV E [r.at_.at_,r.at_.len,r.pool]with
 |none=>simp;omega
 |some x=>simp
theorem Hh {E:List NO}{vs:List Vpc}(hr:vs.Pairwise fun a b=>a.id < b.id)(hv:∀v∈vs,v.id≠0/\v.ranges.Pairwise fun a b=>a.at_.at_ < b.at_.at_)(bJ:mo E vs=true):(Ac vs).Nodup:=by
 unfold Ac List.Nodup;rw[List.pairwise_flatMap];have li:∀v∈vs,∀r∈v.ranges,lV E [r.at_.at_,r.at_.len,r.pool]=some v.id:=fun v uy r xU=>
  (Ad (hv v uy).1).1 (XA.1 (XA.1 bJ v uy) r xU)
 constructor
 ·intro v uy;rw[Y8];exact(hv v uy).2.imp fun {a b} iA e=>by simp at e;omega
 ·rw[XF]at hr ⊢;intro i j hi hj hij x hx y hy e;obtain⟨r,xU,rfl⟩:=XN.1 hx;obtain⟨r',a3e,rfl⟩:=XN.1 hy;have h1:=li _ (Ye hi) r xU;have h2:=li _ (Ye hj) r' a3e;rw[e,h2]at h1;have:=hr i j hi hj hij;simp at h1;omega
theorem NQ {E:List NO}{vs:List Vpc}(hE:E.Pairwise fun x y=>x.1≠y.1)(hr:vs.Pairwise fun a b=>a.id < b.id)(hv:∀v∈vs,v.id≠0/\v.ranges.Pairwise fun a b=>a.at_.at_ < b.at_.at_)(bJ:mo E vs=true):
 qh vs=(E.countP fun kv=>ip vs kv.2)↔∀kv∈E,ip vs kv.2=true->kv.1∈Ac vs:=by
 have hA:=Hh hr hv bJ;have hB:((E.filter fun kv=>ip vs kv.2).map (·.1)).Nodup:=by
  unfold List.Nodup;rw[Y8];exact(hE.filter _)
 have hs:∀x∈Ac vs,x∈(E.filter fun kv=>ip vs kv.2).map (·.1):=by
  intro x hx;obtain⟨v,uy,hx⟩:=ZY.1 hx;obtain⟨r,xU,rfl⟩:=XN.1 hx;have h1:=(Ad (hv v uy).1).1 (XA.1 (XA.1 bJ v uy) r xU);have h2:=(rj hE).1 h1;exact XN.2 ⟨_,ZB.2 ⟨h2,XU.2 ⟨v,uy,by simp⟩⟩,rfl⟩
 have h:=(Rq hA hB hs).2;rw[NP,XB,<-List.countP_eq_length_filter]at h;rw[h];constructor
 ·intro h kv Ly hh;exact h _ (XN.2 ⟨kv,ZB.2 ⟨Ly,hh⟩,rfl⟩)
 ·intro h x hx;obtain⟨kv,Ly,rfl⟩:=XN.1 hx;obtain⟨h1,h2⟩:=ZB.1 Ly;exact h kv h1 h2
theorem NR {b:Bok}(h:BookOK b){p q:Pol}(hp:p∈b.pools)(hq:q∈b.pools)(e:p.id=q.id):p=q:=by
 obtain⟨i,hi,rfl⟩:=Ya hp;obtain⟨j,hj,rfl⟩:=Ya hq;have hr:=XF.1 h.rise;rcases Y7 i j with h1|h1|h1
 ·have:=hr i j hi hj h1;omega
 ·subst h1;rfl
 ·have:=hr j i hj hi h1;omega
theorem Rr {b:Bok}(h:BookOK b)(pid:Int)(at_:Pfx):lV (xp b) [at_.at_,at_.len,pid]=(iy b pid at_).map (·.owner):=by
 rw[Ef h];unfold iy bK;cases hf:b.pools.find? fun p=>p.id==pid with
 |none=>
  simp only[Zq];cases hk:lV (uf b) [at_.at_,at_.len,pid]with
  |none=>rfl
  |some o=>
   obtain⟨p,hp,l,hl,rn,he,-⟩:=sP.1 ((rj (kF h)).1 hk);have:=Yr.1 hf p hp;simp at he this;omega
 |some p=>
  have pH:=YE hf;have AJ:p.id=pid:=by have:=Zs hf;simpa using this
  simp only;cases hl:p.leases.find? (j9 at_)with
  |none=>
   simp only[Zq];cases hk:lV (uf b) [at_.at_,at_.len,pid]with
   |none=>rfl
   |some o=>
    obtain⟨q,hq,l,mO,rn,he,-⟩:=sP.1 ((rj (kF h)).1 hk);simp at he;obtain rfl:=NR h pH hq aa;have:=Yr.1 hl l mO;unfold j9 at this;exfalso;apply this;have:l.at_=at_:=by
     have h1:=he.1;have h2:=he.2.1;cases pp:l.at_ with
     |mk x y=>
      cases at_ with
      |mk x' y'=>rw[pp]at h1 h2;simp only at h1 h2;rw[h1,h2]
    simp[rn,this]
  |some l=>
   simp only[Yg];have mO:=YE hl;have hg:=Zs hl;unfold j9 at hg;rw[Xt]at hg;have g1:l.kind=1:=by simpa using hg.1
   have g2:l.at_=at_:=of_decide_eq_true hg.2;rw[rj (kF h)];exact sP.2 ⟨p,pH,l,mO,g1,by rw[g2,AJ],rfl⟩
def Ou (b:Bok)(id:Int)(r:Rng):Bool:=match iy b r.pool r.at_ with|some l=>l.owner==id|none=>false
def NS (vs:List Vpc)(pid:Int)(l:Lse):Bool:=!(l.kind==1)||(match vs.find? (·.id==l.owner)with|some v=>v.ranges.any fun r=>decide (r=(⟨l.at_,pid⟩:Rng))|none=>true)
def Rs (s:Ste):Bool:=s.net.vpcs.all fun v=>v.ranges.all (Ou s.book v.id)
def JB (s:Ste):Bool:=s.book.pools.all fun p=>p.leases.all (NS s.net.vpcs p.id)
theorem UM {s:Ste}(h:BookOK s.book)(hv:∀v∈s.net.vpcs,v.id≠0):mo (xp s.book) s.net.vpcs=Rs s:=by
 unfold mo Rs;have key:∀v∈s.net.vpcs,∀r∈v.ranges,DR (xp s.book) v.id r=Ou s.book v.id r:=by
  intro v uy r _;unfold DR Ou;rw[Rr h];cases iy s.book r.pool r.at_ with
  |none=>have:=hv v uy;simp;omega
  |some l=>simp
 rw[Yk,XA,XA];refine forall_congr' fun v=>forall_congr' fun uy=>?_;rw[XA,XA];exact forall_congr' fun r=>forall_congr' fun xU=>by rw[key v uy r xU]
theorem Rt {vs:List Vpc}(hr:vs.Pairwise fun a b=>a.id < b.id){v w:Vpc}(hv:v∈vs)(hw:w∈vs)(e:v.id=w.id):v=w:=by
 obtain⟨i,hi,rfl⟩:=Ya hv;obtain⟨j,hj,rfl⟩:=Ya hw;have hr:=XF.1 hr;rcases Y7 i j with h1|h1|h1
 ·have:=hr i j hi hj h1;omega
 ·subst h1;rfl
 ·have:=hr j i hj hi h1;omega
theorem UN {s:Ste}(h:BookOK s.book)(hr:s.net.vpcs.Pairwise fun a b=>a.id < b.id)(hv:∀v∈s.net.vpcs,v.id≠0)(bJ:mo (xp s.book) s.net.vpcs=true):
 (∀kv∈xp s.book,ip s.net.vpcs kv.2=true->kv.1∈Ac s.net.vpcs)↔JB s=true:=by
 rw[Ef h]at bJ ⊢;unfold JB;simp only[XA];constructor
 ·intro hk p hp l hl;unfold NS;by_cases rn:l.kind=1
  ·have hm:=sP.2 ⟨p,hp,l,hl,rn,rfl,rfl⟩;cases hf:s.net.vpcs.find? (·.id==l.owner)with
   |none=>simp
   |some v=>
    have uy:=YE hf;have hvi:v.id=l.owner:=by have:=Zs hf;simpa using this
    have hka:=hk _ hm (XU.2 ⟨v,uy,by simpa using hvi⟩);obtain⟨w,C9,hx⟩:=ZY.1 hka;obtain⟨r,xU,he⟩:=XN.1 hx;have h1:=(Ad (hv w C9)).1 (XA.1 (XA.1 bJ w C9) r xU);have h2:=(rj (kF h)).2 hm;simp only at he;rw[he,h2]at h1;have hwv:w=v:=Rt hr C9 uy (by simp at h1;omega);subst hwv;have:r=⟨l.at_,p.id⟩:=by
     cases r with
     |mk a pl=>
      cases a;cases pp:l.at_;simp_all
    simp only[rn,beq_self_eq_true,H',p'];exact XU.2 ⟨r,xU,by simpa using this⟩
  ·simp[rn]
 ·rintro hk ⟨k,o⟩ Ly hh;obtain⟨p,hp,l,hl,rn,rfl,rfl⟩:=sP.1 Ly;have h1:=hk p hp l hl;unfold NS at h1;simp only[rn,beq_self_eq_true,H',p']at h1;obtain⟨v,uy,hvi⟩:=XU.1 hh;cases hf:s.net.vpcs.find? (·.id==l.owner)with
  |none=>exact absurd hvi (by simpa using Yr.1 hf v uy)
  |some w=>
   rw[hf]at h1;obtain⟨r,xU,he⟩:=XU.1 h1;have he:r=⟨l.at_,p.id⟩:=by simpa using he
   exact ZY.2 ⟨w,YE hf,XN.2 ⟨r,xU,by rw[he]⟩⟩
theorem NT (s:Ste):iI s=if br s.book≠0 then br s.book else if cN s.net≠0 then cN s.net else if (Rs s&&JB s)=true then 0 else 1:=by
 unfold iI;by_cases h1:br s.book=0
 ·have n1:¬br s.book≠0:=fun h=>h h1;by_cases h2:cN s.net=0
  ·have n2:¬cN s.net≠0:=fun h=>h h2;rw[af n1,af n1,af n2,af n2];have hb:=dJ h1;have hn:=iq.1 h2;have hv:∀v∈s.net.vpcs,v.id≠0:=fun v uy e=>by
    have:=(aY (hn.vp v uy)).id;unfold cB at this;rw[e]at this;simp at this
   have Od:∀v∈s.net.vpcs,v.id≠0/\v.ranges.Pairwise fun a b=>a.at_.at_ < b.at_.at_:=fun v uy=>⟨hv v uy,(aY (hn.vp v uy)).rr⟩;rw[<-UM hb hv];cases bJ:mo (xp s.book) s.net.vpcs with
   |false=>simp
   |true=>
    have hc:=NQ (E:=xp s.book) (by rw[Ef hb];exact kF hb) hn.rise Od bJ;rw[UN hb hn.rise hv bJ]at hc;simp only[Ys,decide_eq_true_eq];by_cases h3:JB s=true
    ·rw[aj (hc.2 h3),aj h3]
    ·rw[af (fun e=>h3 (hc.1 e)),af h3]
  ·rw[af n1,af n1,aj h2,aj h2]
 ·rw[aj h1,aj h1]
theorem a4j {p:Prop}(h:p:=by
 intro hI C;rw[Xq]at hI;have hr:R=false:=by rw[hR.out,hI]
 rw[hr];replace hI:=Xj hI;exact bc):p:=h
theorem ug {α:Type}{p:α->Bool}{l:List α}{k:Nat}{x:α}(hx:l[k]? =some x)(h:(l.take k).any p=false)(hp:p x=false):(l.take (k+1)).any p=false:=by
 rw[ak hx,List.any_append,h];simpa using hp
theorem xP {α:Type}{p:α->Bool}{l:List α}{k:Nat}{x:α}(hx:l[k]? =some x)(hp:p x=true):l.any p=true:=XU.2 ⟨x,Xl hx,hp⟩
theorem Ae (v:Vpc)(r:Rng)(hl:v.ranges.length<=1000000000):ai prog 40 [.agg (ax v),.agg (bE r)] (.v (.bool (v.ranges.any fun x=>decide (x=r)))):=by
 obtain⟨R,hR⟩:∃R,R=v.ranges.any fun x=>decide (x=r):=⟨_,rfl⟩;rw[<-hR];replace hR:=Xj hR;refine pj func40 ntmps40 results40 ?_;refine ap ?_;refine bf ag am v.ranges (fun k=>((v.ranges.take k).any fun x=>decide (x=r))=false) (fun k=>[(5,.d (.v (.int .i64 k))),(4,.d (.v (.bool false))),(3,.ptr 1 0),(2,.ptr 0 0)]) (fun _=>[.box 88 ((ax v).map .d),.box 100 ((bE r).map .d)]) rfl wf ?_ ?_
 ·intro k x hx hk hI C hC;have eo:(k:Int) < (v.ranges.length:Int):=aa;have db:=wi k aa;have he:=zA x r;replace hI:=Xj hI;cases hp:decide (x=r)with
  |true=>
   rw[hp]at he;have hr:R=true:=by rw[hR.out];exact xP hx hp
   rw[hr];replace hp:=Xj hp;exact bc
  |false=>
   rw[hp]at he;have nL:=Xj (ug hx hI.out hp);replace hp:=Xj hp;refine ap ?_;exact hC _ _ nL.out wf
 ·exact a4j
theorem NU (n:Net)(r:Rng)(hl:n.vpcs.length<=1000000000)(hv:∀v∈n.vpcs,v.ranges.length<=1000000000):ai prog 145 [.agg (cQ n),.agg (bE r)] (.v (.bool (n.vpcs.any fun v=>v.ranges.any fun x=>decide (x=r)))):=by
 obtain⟨R,hR⟩:∃R,R=n.vpcs.any fun v=>v.ranges.any fun x=>decide (x=r):=⟨_,rfl⟩;rw[<-hR];replace hR:=Xj hR;replace hv:=Xj hv;refine pj func145 ntmps145 results145 ?_;refine ap ?_;refine bf ag am n.vpcs (fun k=>((n.vpcs.take k).any fun v=>v.ranges.any fun x=>decide (x=r))=false) (fun k=>[(5,.d (.v (.int .i64 k))),(4,.d (.v (.bool false))),(3,.ptr 1 0),(2,.ptr 0 0)]) (fun _=>[.box 34 ((cQ n).map .d),.box 100 ((bE r).map .d)]) rfl wf ?_ ?_
 ·intro k v hx hk hI C hC;have eo:(k:Int) < (n.vpcs.length:Int):=aa;have db:=wi k aa;have hh:=Ae v r (hv.out v (Xl hx));replace hI:=Xj hI;cases hp:v.ranges.any fun x=>decide (x=r)with
  |true=>
   rw[hp]at hh;have hr:R=true:=by rw[hR.out];exact xP hx hp
   rw[hr];replace hp:=Xj hp;exact bc
  |false=>
   rw[hp]at hh;have nL:=Xj (ug hx hI.out hp);replace hp:=Xj hp;refine ap ?_;exact hC _ _ nL.out wf
 ·exact a4j
def Af (b:Bok)(id:Int):Bool:=b.pools.any fun p=>p.leases.any fun l=>l.kind==1&&l.owner==id
theorem UO (b:Bok)(id:Int)(hl:b.pools.length<=1000000000)(hv:∀p∈b.pools,p.leases.length<=1000000000):ai prog 78 [.agg (bq b),.v (.int .i64 id)] (.v (.bool (Af b id))):=by
 unfold Af;obtain⟨R,hR⟩:∃R,R=b.pools.any fun p=>p.leases.any fun l=>l.kind==1&&l.owner==id:=⟨_,rfl⟩;rw[<-hR];replace hR:=Xj hR;replace hv:=Xj hv;refine pj func78 ntmps78 results78 ?_;refine ap ?_;refine bf ag am b.pools (fun k=>((b.pools.take k).any fun p=>p.leases.any fun l=>l.kind==1&&l.owner==id)=false) (fun k=>[(5,.d (.v (.int .i64 k))),(4,.d (.v (.bool false))),(2,.ptr 0 0),(1,.d (.v (.int .i64 id)))]) (fun _=>[.box 30 ((bq b).map .d)]) rfl wf ?_ ?_
 ·intro k p hx hk hI C hC;have eo:(k:Int) < (b.pools.length:Int):=aa;have db:=wi k aa;have jC:=hv.out p (Xl hx);replace hI:=Xj hI;refine ap ?_;refine bf ag am p.leases (fun j=>((p.leases.take j).any fun l=>l.kind==1&&l.owner==id)=false) (fun j=>[(6,.d (.v (.int .i64 j))),(5,.d (.v (.int .i64 k))),(4,.d (.v (.bool false))),(2,.ptr 0 0),(1,.d (.v (.int .i64 id)))]) (fun _=>[.box 30 ((bq b).map .d)]) rfl wf ?_ ?_
  ·intro j l hy hj hJ C2 j6;have lz:(j:Int) < (p.leases.length:Int):=aa;have nI:=wi j aa;replace hJ:=Xj hJ;cases hp:(l.kind==1&&l.owner==id)with
   |true=>
    have hr:R=true:=by rw[hR.out];exact xP hx (xP hy hp)
    rw[hr];rw[Xt]at hp;obtain⟨p1,p2⟩:=hp;exact bc
   |false=>
    have EP:=Xj (ug hy hJ.out hp);cases p1:l.kind==1 with
    |false=>
     replace hp:=Xj hp;refine ap ?_;exact j6 _ _ EP.out wf
    |true=>
     rw[p1,Ys]at hp;refine ap ?_;exact j6 _ _ EP.out wf
  ·intro hJ C2;rw[Xq]at hJ;have nL:=Xj (ug hx hI.out hJ);replace hJ:=Xj hJ;refine ap ?_;exact hC _ _ nL.out wf
 ·exact a4j
theorem a4T {p:Prop}(h:p:=by
  rw[ak j5.out,Z5,hI.out];simpa using hJ):p:=h
theorem Ru {α:Type}(p:α->Bool)(l:List α):(cv p l < 0/\l.find? p=none)\/∃(k:Nat) (x:α),cv p l=k/\l[k]? =some x/\l.find? p=some x:=by
 unfold cv;cases h:l.findIdx? p with
 |none=>
  left;exact⟨by simp,Yr.2 fun x hx=>by simpa using Yn.1 h x hx⟩
 |some k=>
  right;obtain⟨hk,h1,h2⟩:=XI.1 h;refine⟨k,_,rfl,Xk hk,?_⟩;rw[Zk];exact⟨h1,k,hk,rfl,fun j hj=>by simpa using h2 j hj⟩
theorem Hi (s:Ste)(hz:∀p∈s.book.pools,p.leases.length<=3518437208882)(rE:Bk s.net):ai prog 16 [.agg (eR s)] (.v (.int .i64 (iI s))):=by
 have hb:=iw s.book hz;have hn:=kC s.net rE;rw[NT];by_cases h1:br s.book=0
 ·rw[af (by simpa using h1)];rw[h1]at hb;by_cases h2:cN s.net=0
  ·rw[af (by simpa using h2)];rw[h2]at hn;have De:=dJ h1;have cg:=iq.1 h2;have h8:=De.n8;have eG:=Xj De.l32;have n6:=cg.n6;have hv4:∀v∈s.net.vpcs,v.ranges.length<=4:=fun v hv=>(aY (cg.vp v hv)).n4;replace hv4:=Xj hv4;obtain⟨R,hR⟩:∃R,R=if (Rs s&&JB s)=true then (0:Int)else 1:=⟨_,rfl⟩;rw[<-hR];replace hR:=Xj hR;clear h1 h2 De cg hz rE;refine pj func16 ntmps16 results16 ?_;refine ap ?_;refine bf ag am s.net.vpcs (fun k=>((s.net.vpcs.take k).all fun v=>v.ranges.all (Ou s.book v.id))=true) (fun k=>[(5,.d (.v (.int .i64 k))),(2,.d (.v (.int .i64 0))),(1,.ptr 0 0)]) (fun _=>[.box 36 ((eR s).map .d)]) rfl wf ?_ ?_
   ·intro k v hx hk hI C hC;have eo:(k:Int) < (s.net.vpcs.length:Int):=aa;have db:=wi k aa;have h4:=Xj (hv4.out v (Xl hx));have j5:=Xj hx;replace hI:=Xj hI;refine ap ?_;clear hx;refine bf ag am v.ranges (fun j=>((v.ranges.take j).all (Ou s.book v.id))=true) (fun j=>[(7,.d (.v (.int .i64 j))),(6,.ptr 1 0),(5,.d (.v (.int .i64 k))),(2,.d (.v (.int .i64 0))),(1,.ptr 0 0)]) (fun _=>[.box 36 ((eR s).map .d),.box 88 ((ax v).map .d)]) rfl wf ?_ ?_
    ·intro j r hy hj hJ C2 j6;have lz:(j:Int) < (v.ranges.length:Int):=aa;have nI:IntKind.i64.wrap ((j:Int)+1)=((j+1:Nat):Int):=by have:=h4.out;rw[IntKind.wrap_i64];omega
     have pp:=CH s.book r.pool r.at_ aa (fun q hq=>by have:=eG.out q hq;omega);have SZ:=Xj hy;replace hJ:=Xj hJ;have bL:Ou s.book v.id r=false->R=1:=fun e=>by
      rw[hR.out,af];intro h;rw[Xt]at h;have:=XA.1 (XA.1 h.1 v (Xl j5.out)) r (Xl SZ.out);rw[e]at this;cases this
     have iL:Ou s.book v.id r=true->((v.ranges.take (j+1)).all (Ou s.book v.id))=true:=fun e=>by
      rw[ak SZ.out,Z5,hJ.out];simpa using e
     cases wc:iy s.book r.pool r.at_ with
     |none=>
      rw[wc]at pp;have hr:=bL (by unfold Ou;rw[wc]);rw[hr];clear bL iL hr;simp only[qs]at pp;replace wc:=Xj wc;exact bc
     |some l=>
      rw[wc]at pp;simp only[qs]at pp;cases ho:l.owner==v.id with
      |false=>
       have hr:=bL (by unfold Ou;rw[wc];exact ho);rw[hr];have e1:(l.owner !=v.id)=true:=by simpa using ho
       clear bL iL hr;replace wc:=Xj wc;exact bc
      |true=>
       have hg:=Xj (iL (by unfold Ou;rw[wc];exact ho));have e1:(l.owner !=v.id)=false:=by simpa using ho
       clear bL iL;replace wc:=Xj wc;refine ap ?_;exact j6 _ _ hg.out wf
    ·intro hJ C2;rw[Xq]at hJ;have nL:((s.net.vpcs.take (k+1)).all fun v=>v.ranges.all (Ou s.book v.id))=true:=a4T
     replace nL:=Xj nL;replace hJ:=Xj hJ;refine ap ?_;exact hC _ _ nL.out wf
   ·intro hI C;rw[Xq]at hI;have hA:Rs s=true:=hI;have aQ:R=if JB s=true then 0 else 1:=by rw[hR.out,hA,Ys]
    replace hI:=Xj hI;replace aQ:=Xj aQ;replace hA:=Xj hA;refine ap ?_;refine bf ag am s.book.pools (fun k=>((s.book.pools.take k).all fun p=>p.leases.all (NS s.net.vpcs p.id))=true) (fun k=>[(10,.d (.v (.int .i64 k))),(2,.d (.v (.int .i64 0))),(1,.ptr 0 0)]) (fun _=>[.box 36 ((eR s).map .d)]) rfl wf ?_ ?_
    ·intro k p hx hk hI C hC;have eo:(k:Int) < (s.book.pools.length:Int):=aa;have db:=wi k aa;have h4:=Xj (eG.out p (Xl hx));have j5:=Xj hx;replace hI:=Xj hI;refine ap ?_;clear hx;refine bf ag am p.leases (fun j=>((p.leases.take j).all (NS s.net.vpcs p.id))=true) (fun j=>[(12,.d (.v (.int .i64 j))),(11,.ptr 1 0),(10,.d (.v (.int .i64 k))),(2,.d (.v (.int .i64 0))),(1,.ptr 0 0)]) (fun _=>[.box 36 ((eR s).map .d),.box 83 ((an p).map .d)]) rfl wf ?_ ?_
     ·intro j l hy hj hJ C2 j6;have lz:(j:Int) < (p.leases.length:Int):=aa;have nI:IntKind.i64.wrap ((j:Int)+1)=((j+1:Nat):Int):=by have:=h4.out;rw[IntKind.wrap_i64];omega
      have Vw:=iF s.net l.owner aa;have SZ:=Xj hy;replace hJ:=Xj hJ;have bL:NS s.net.vpcs p.id l=false->R=1:=fun e=>by
       rw[aQ.out,af];intro h;have:=XA.1 (XA.1 h p (Xl j5.out)) l (Xl SZ.out);rw[e]at this;cases this
      have iL:NS s.net.vpcs p.id l=true->((p.leases.take (j+1)).all (NS s.net.vpcs p.id))=true:=fun e=>by
       rw[ak SZ.out,Z5,hJ.out];simpa using e
      cases hkd:l.kind==1 with
      |false=>
       have hg:=Xj (iL (by unfold NS;rw[hkd];rfl));clear bL iL Vw;refine ap ?_;exact j6 _ _ hg.out wf
      |true=>
       rcases Ru (fun v:Vpc=>v.id==l.owner) s.net.vpcs with⟨h0,hf⟩|⟨i,v,hi,hv,hf⟩
       ·have hg:=Xj (iL (by unfold NS;rw[hkd,hf];rfl));have e1:decide (cv (fun v:Vpc=>v.id==l.owner) s.net.vpcs>=0)=false:=aK;generalize cv (fun v:Vpc=>v.id==l.owner) s.net.vpcs=ix at*;replace h0:=Xj h0;replace hf:=Xj hf;clear bL iL;refine ap ?_;exact j6 _ _ hg.out wf
       ·rw[hi]at Vw;have hil:=(Xn.1 hv).1;have V5:(i:Int) < (s.net.vpcs.length:Int):=aa;have mZ:decide ((i:Int)>=0)=true:=ah;have hh:=Ae v ⟨l.at_,p.id⟩ (by have:=hv4.out v (Xl hv);omega);replace hi:=Xj hi;cases hb:v.ranges.any fun x=>decide (x=(⟨l.at_,p.id⟩:Rng))with
        |true=>
         have hg:=Xj (iL (by unfold NS;rw[hkd,hf];exact hb));rw[hb]at hh;replace hb:=Xj hb;replace hf:=Xj hf;clear bL iL;refine ap ?_;exact j6 _ _ hg.out wf
        |false=>
         have hr:=bL (by unfold NS;rw[hkd,hf];exact hb);rw[hb]at hh;replace hb:=Xj hb;replace hf:=Xj hf;clear bL iL;rw[hr];exact bc
     ·intro hJ C2;rw[Xq]at hJ;have nL:((s.book.pools.take (k+1)).all fun p=>p.leases.all (NS s.net.vpcs p.id))=true:=a4T
      replace nL:=Xj nL;replace hJ:=Xj hJ;refine ap ?_;exact hC _ _ nL.out wf
    ·intro hI C;rw[Xq]at hI;have hr:R=0:=by rw[aQ.out,aj (show JB s=true from hI)]
     rw[hr];replace hI:=Xj hI;exact bc
  ·have e2:(cN s.net !=0)=true:=by simpa using h2
   rw[aj h2];generalize cN s.net=X at*;replace h1:=Xj h1;replace h2:=Xj h2;refine pj func16 ntmps16 results16 ?_;exact bc
 ·have e2:(br s.book !=0)=true:=by simpa using h1
  rw[aj h1];generalize br s.book=X at*;replace h1:=Xj h1;refine pj func16 ntmps16 results16 ?_;exact bc
theorem Or {p:Prop}(h:p:=by
 obtain⟨s,hq⟩:∃s,pre[k]? =some s:=⟨_,Xk nu⟩;have hs:v.subs[k]? =some s:=by rw[hL.out,X5 nu];exact hq
 have jF:=h8.out s (Xl hs);replace hs:=Xj hs;replace hq:=Xj hq;have mQ:=hs.out;refine ap ?_<;>intros;refine bf ag am s.faces (fun _=>True) (fun j=>[(6,.d (.v (.int .i64 j))),(5,.ptr 5 0),(4,.d (.v (.int .i64 k))),(3,.ptr 3 0),(2,.ptr 1 0),(1,.ptr 0 0)])
  (fun j=>[.box 88 ((ax v).map .d),.box 88 [.d (.v (.int .i64 0)),.d (.v (.slice none 0 0)),.d (.v (.slice none 0 0))],.row 100 3 1 (ab (v.ranges.map bE)),.box 88 [.d (.v (.int .i64 v.id)),.own 2 1,.own 4 k],.row 107 4 k (ab ((pre.take k).map aX)),.box 107 [.d (.v (.int .i64 s.id)),.d (.v (.int .i64 s.at_.at_)),.d (.v (.int .i64 s.at_.len)),.own 6 j],.row 110 2 j (ab ((s.faces.take j).map cl))]) trivial ?_ ?_ ?_
 ·refine(ay ah 5 107 [.d (.v (.int .i64 s.id)),.d (.v (.int .i64 s.at_.at_)),.d (.v (.int .i64 s.at_.len)),.d (.v (.slice none 0 0))] 3 110 2 rfl rfl rfl).trans ?_;exact wf (hb:=cK) (hbh:=cK)
 ·intro j f hf hj _ C hC;have lz:(j:Int) < (s.faces.length:Int):=aa;have nI:=wi j aa;have gX:=jF.2 f (Xl hf);have iO:j+1<=100:=aa;have ro:(Yf j s.faces).length=j:=by rw[Xp];omega
  replace hf:=Xj hf;have Dd:=hf.out;refine ap ?_<;>intros;refine hC _ _ trivial ((av 8 1 3 1 (f.addrs.map cF) rfl).trans ?_);simp only[jq,fz,ij,gM,iS,gI,aT,bW,ce,Xm,Xr,XL,XK,reduceIte,and_true,true_and,and_self,and_false,false_and,XE,XT,reduceCtorEq,dn];exact wf (hh:=(by rw[ak hf.out,Xo,Xm,Xr,<-aI];rfl)) (hb:=cK) (hbh:=cK)
 ·intro _ C;refine ap ?_<;>intros;refine we _ _ _ _ _ ?_ (.inl ⟨k+1,nu,rfl,rfl,rfl⟩) ((av 6 s.faces.length 110 2 (s.faces.map cl) rfl).trans ?_)
  ·have:=hm.out;have:=bN.out;omega
  simp only[jq,fz,ij,gM,iS,gI,aT,bW,ce,Xm,Xr,XL,XK,reduceIte,and_true,true_and,and_self,and_false,false_and,XE,XT,reduceCtorEq];exact wf (hh:=(by rw[ak hq.out,Xo,Xm,Xr,<-aI];rfl)) (hb:=cK) (hbh:=cK)):p:=h
theorem a3W {p:Prop}(h:p:=by
 obtain rfl:q=post.length:=aa;obtain rfl:k=v.subs.length:=by have:=bN.out;omega
 clear EF;refine ap ?_<;>intros;(try rw[Xq])
 refine(aL 0 ah).trans ?_;refine(aL 1 (by simp[bD])).trans ?_;exact(aL 3 (by simp[bD])).trans (bn rfl rfl)):p:=h
theorem Rv (v:Vpc)(pre post:List Sbn)(s0:Sbn)(hv:v.subs=pre++s0::post)(h4:v.ranges.length<=4)(h6:v.subs.length<=6)(h8:∀s∈v.subs,s.faces.length<=8/\∀f∈s.faces,f.addrs.length<=4):
 MSpec prog 87 [.d (.agg (ax v))] [] (.agg [.d (.v (.int .i64 v.id)),.own 2 1,.own 4 v.subs.length]) [.gone,.gone,.row 100 3 1 (ab (v.ranges.map bE)),.gone,.row 107 4 v.subs.length (fA aX pre (cy s0 (.own 6 s0.faces.length)) post),.gone,.row 110 2 s0.faces.length (ab (s0.faces.map cl))]:=by
 replace h8:=Xj h8;have bB:v.subs.length=pre.length+1+post.length:=by rw[hv];simp;omega
 have hL:=Xj hv;have bN:=Xj bB;clear hv bB;refine mj func87 ntmps87 results87 ?_;refine ap ?_<;>intros;refine bQ ag am (fun m e h=>(∃k,k<=pre.length/\m=v.subs.length - k/\e=[(4,.d (.v (.int .i64 k))),(3,.ptr 3 0),(2,.ptr 1 0),(1,.ptr 0 0)]/\h=[.box 88 ((ax v).map .d),.box 88 [.d (.v (.int .i64 0)),.d (.v (.slice none 0 0)),.d (.v (.slice none 0 0))],.row 100 3 1 (ab (v.ranges.map bE)),.box 88 [.d (.v (.int .i64 v.id)),.own 2 1,.own 4 k],.row 107 4 k (ab ((pre.take k).map aX))])\/
  ∃k j,k=pre.length+1+j/\j<=post.length/\m=v.subs.length - k/\e=[(4,.d (.v (.int .i64 k))),(3,.ptr 3 0),(2,.ptr 1 0),(1,.ptr 0 0)]/\h=[.box 88 ((ax v).map .d),.box 88 [.d (.v (.int .i64 0)),.d (.v (.slice none 0 0)),.d (.v (.slice none 0 0))],.row 100 3 1 (ab (v.ranges.map bE)),.box 88 [.d (.v (.int .i64 v.id)),.own 2 1,.own 4 k],.row 107 4 k (fA aX pre (cy s0 (.own 6 s0.faces.length)) (post.take j)),.gone,.row 110 2 s0.faces.length (ab (s0.faces.map cl))]) _ _ _ (.inl ⟨0,XD _,rfl,rfl,rfl⟩) ?_ ?_
 ·exact a3R
 ·rintro m e h (⟨k,hk,hm,rfl,rfl⟩|⟨k,q,EF,hj,hm,rfl,rfl⟩) CO we
  ·have eo:(k:Int) < (v.subs.length:Int):=by have:=bN.out;omega
   have db:=wi k aa;have j7:k+1<=100:=by have:=bN.out;omega
   have li:(Yf k pre).length=k:=by rw[Xp];omega
   have hm:=Xj hm;by_cases nu:k < pre.length
   ·exact Or
   ·obtain rfl:k=pre.length:=aa;have hs:v.subs[pre.length]? =some s0:=by rw[hL.out,XH (Xz _),YF];rfl
    have jF:=h8.out s0 (Xl hs);replace hs:=Xj hs;have mQ:=hs.out;obtain⟨k,jV⟩:∃k,k=pre.length:=⟨_,rfl⟩;obtain⟨s,pG⟩:∃s,s=s0:=⟨_,rfl⟩;rw[<-pG]at jF mQ we ⊢;rw[<-jV]at mQ eo db j7 li we ⊢;rw[jV,Xq]at li;replace pG:=Xj pG;replace jV:=Xj jV;refine ap ?_<;>intros;refine bf ag am s.faces (fun _=>True) (fun j=>[(6,.d (.v (.int .i64 j))),(5,.ptr 5 0),(4,.d (.v (.int .i64 k))),(3,.ptr 3 0),(2,.ptr 1 0),(1,.ptr 0 0)])
     (fun j=>[.box 88 ((ax v).map .d),.box 88 [.d (.v (.int .i64 0)),.d (.v (.slice none 0 0)),.d (.v (.slice none 0 0))],.row 100 3 1 (ab (v.ranges.map bE)),.box 88 [.d (.v (.int .i64 v.id)),.own 2 1,.own 4 k],.row 107 4 k (ab ((pre.take k).map aX)),.box 107 [.d (.v (.int .i64 s.id)),.d (.v (.int .i64 s.at_.at_)),.d (.v (.int .i64 s.at_.len)),.own 6 j],.row 110 2 j (ab ((s.faces.take j).map cl))]) trivial ?_ ?_ ?_
    ·exact a3E
    ·exact a3B
    ·exact a3Q
  ·have hm:=Xj hm;have uB:=Xj EF;have j7:pre.length+1+q+1<=100:=by have:=bN.out;omega
   have li:(Yf q post).length=q:=by rw[Xp];omega
   have xT:k<=v.subs.length:=by have:=bN.out;omega
   by_cases AR:q < post.length
   ·obtain⟨s,hq⟩:∃s,post[q]? =some s:=⟨_,Xk AR⟩;have hs:v.subs[k]? =some s:=by
     rw[hL.out,XH aa,show k - pre.length=q+1 by omega,Yw];exact hq
    have jF:=h8.out s (Xl hs);have eo:(k:Int) < (v.subs.length:Int):=by have:=bN.out;omega
    have db:=wi k aa;replace hq:=Xj hq;replace hs:=Xj hs;have mQ:=hs.out;clear EF;refine ap ?_<;>intros;refine bf ag am s.faces (fun _=>True) (fun j=>[(6,.d (.v (.int .i64 j))),(5,.ptr 7 0),(4,.d (.v (.int .i64 k))),(3,.ptr 3 0),(2,.ptr 1 0),(1,.ptr 0 0)])
     (fun j=>[.box 88 ((ax v).map .d),.box 88 [.d (.v (.int .i64 0)),.d (.v (.slice none 0 0)),.d (.v (.slice none 0 0))],.row 100 3 1 (ab (v.ranges.map bE)),.box 88 [.d (.v (.int .i64 v.id)),.own 2 1,.own 4 k],.row 107 4 k (fA aX pre (cy s0 (.own 6 s0.faces.length)) (post.take q)),.gone,.row 110 2 s0.faces.length (ab (s0.faces.map cl)),.box 107 [.d (.v (.int .i64 s.id)),.d (.v (.int .i64 s.at_.at_)),.d (.v (.int .i64 s.at_.len)),.own 8 j],.row 110 2 j (ab ((s.faces.take j).map cl))]) trivial ?_ ?_ ?_
    ·refine(ay ah 7 107 [.d (.v (.int .i64 s.id)),.d (.v (.int .i64 s.at_.at_)),.d (.v (.int .i64 s.at_.len)),.d (.v (.slice none 0 0))] 3 110 2 rfl rfl rfl).trans ?_;exact wf (hb:=cK) (hbh:=cK)
    ·intro j f hf hj _ C hC;have lz:(j:Int) < (s.faces.length:Int):=aa;have nI:=wi j aa;have gX:=jF.2 f (Xl hf);have iO:j+1<=100:=aa;have ro:(Yf j s.faces).length=j:=by rw[Xp];omega
     replace hf:=Xj hf;have Dd:=hf.out;refine ap ?_<;>intros;refine hC _ _ trivial ((av 10 1 3 1 (f.addrs.map cF) rfl).trans ?_);simp only[jq,fz,ij,gM,iS,gI,aT,bW,ce,Xm,Xr,XL,XK,reduceIte,and_true,true_and,and_self,and_false,false_and,XE,XT,reduceCtorEq,dn];exact wf (hh:=(by rw[ak hf.out,Xo,Xm,Xr,<-aI];rfl)) (hb:=cK) (hbh:=cK)
    ·intro _ C;refine ap ?_<;>intros;refine we _ _ _ _ _ ?_ (.inr ⟨k+1,q+1,by have:=uB.out;omega,AR,rfl,rfl,rfl⟩) ((av 8 s.faces.length 110 2 (s.faces.map cl) rfl).trans ?_)
     ·exact a4u
     simp only[jq,fz,ij,gM,iS,gI,aT,bW,ce,Xm,Xr,XL,XK,reduceIte,and_true,true_and,and_self,and_false,false_and,XE,XT,reduceCtorEq,dn,cy];exact wf (hh:=(by rw[ak hq.out,<-lY];rfl)) (hb:=cK) (hbh:=cK)
   ·exact a3W
theorem xQ (v:Vpc)(id:Int)(hl:v.subs.length<=1000000000):ai prog 229 [.agg (ax v),.v (.int .i64 id)] (.v (.int .i64 (cv (fun s=>s.id==id) v.subs))):=by
 refine pj func229 ntmps229 results229 ?_;refine ap ?_<;>intros;refine bf ag am v.subs (fun k=>(v.subs.take k).all (fun s=>!(s.id==id))=true) (fun k=>[(5,.d (.v (.int .i64 k))),(4,.d (.v (.int .i64 0))),(2,.ptr 0 0),(1,.d (.v (.int .i64 id)))]) (fun _=>[.box 88 ((ax v).map .d)]) rfl (wf) ?_ ?_
 ·intro k p hp hk hI C hC;have eo:(k:Int) < (v.subs.length:Int):=aa;have db:=wi k aa;replace hI:=Xj hI;refine AN ?_ ?_<;>intros
  ·exact a4U
  ·exact a4M
 ·exact a4z
theorem Ag (s:Sbn)(id:Int)(hl:s.faces.length<=1000000000):ai prog 231 [.agg (aX s),.v (.int .i64 id)] (.v (.int .i64 (cv (fun f=>f.id==id) s.faces))):=by
 refine pj func231 ntmps231 results231 ?_;refine ap ?_<;>intros;refine bf ag am s.faces (fun k=>(s.faces.take k).all (fun f=>!(f.id==id))=true) (fun k=>[(5,.d (.v (.int .i64 k))),(4,.d (.v (.int .i64 0))),(2,.ptr 0 0),(1,.d (.v (.int .i64 id)))]) (fun _=>[.box 107 ((aX s).map .d)]) rfl (wf) ?_ ?_
 ·intro k p hp hk hI C hC;have eo:(k:Int) < (s.faces.length:Int):=aa;have db:=wi k aa;replace hI:=Xj hI;refine AN ?_ ?_<;>intros
  ·exact a4U
  ·exact a4M
 ·exact a4z
theorem CW {used:List Int}{p:Pfx}{n:Nat}{a:Int}(h:jh p a=false):gm used p n a=none:=by
 cases n with
 |zero=>rfl
 |succ n=>rw[gm,af (by simp[h])]
theorem uh {p:Pfx}{a:Int}(hr:p.right=true):jh p a=true↔p.at_ < a/\a < p.hi - 1:=by
 unfold jh;have hb:=p.hi_bd hr;have he:p.hi=p.at_+eX p.len:=rfl;simp only[Xt,decide_eq_true_eq,qe,oe];constructor
 ·rintro⟨-,h1,h2⟩;omega
 ·rintro⟨h1,h2⟩;exact⟨⟨hr,by omega,by omega⟩,by omega,by omega⟩
theorem Hj (s:Sbn)(h8:s.faces.length<=8)(h4:∀f∈s.faces,f.addrs.length<=4)(hr:s.at_.right=true):ai prog 230 [.agg (aX s)] (.v (.int .i64 ((eU s).getD (-1)))):=by
 have pp:ai prog 136 [.agg (aS s.at_)] (.v (.int .i64 (s.at_.hi - 1))):=PO s.at_ (by rw[<-Pfx.right];exact hr);have RZ:=s.at_.hi_bd hr;obtain⟨r1,r2,r3,r4,-⟩:=s.at_.bd hr;obtain⟨R,hR⟩:∃R,R=(eU s).getD (-1):=⟨_,rfl⟩;rw[<-hR];replace hR:=Xj hR;refine pj func230 ntmps230 results230 ?_;refine ap ?_<;>intros;refine bQ ag am (fun m e h=>∃(i:Nat) (a:Int),a=s.at_.at_+i/\a<=s.at_.hi/\(0 < i->eU s=gm (s.faces.flatMap (·.addrs)) s.at_ (65537 - i) a)/\m=65537 - i/\
  e=[(3,.d (.v (.int .i64 a))),(2,.d (.v (.int .i64 0))),(1,.ptr 0 0)]/\h=[.box 107 ((aX s).map .d)]) 65537 _ _ ⟨0,s.at_.at_,by simp,by omega,fun h=>absurd h (Nat.lt_irrefl _),rfl,rfl,rfl⟩ (wf) ?_
 rintro m e h ⟨i,a,ha,hah,hle,hm,rfl,rfl⟩ C hC;have hil:i<=65536:=aa;replace hm:=Xj hm;replace hle:=Xj hle;replace ha:=Xj ha;by_cases rq:a<=s.at_.hi - 1
 ·have V7:decide (a<=s.at_.hi - 1)=true:=by simpa using rq
  have Ey:IntKind.i64.wrap (a+1)=a+1:=by rw[IntKind.wrap_i64];have:=ha.out;omega
  have d9:=Ga s a;obtain⟨Z,hZ⟩:∃Z,Z=s.at_.hi - 1:=⟨_,rfl⟩;rw[<-hZ]at V7 pp;replace hZ:=Xj hZ;replace rq:=Xj rq;replace hah:=Xj hah;replace RZ:=Xj RZ;obtain⟨B,hB⟩:∃B,B=jh s.at_ a:=⟨_,rfl⟩;rw[<-hB]at d9;replace hB:=Xj hB;refine ap ?_<;>intros;refine bQ ag am (fun m e h=>∃(k:Nat) (F:Bool),k<=s.faces.length/\F=(B&&!((s.faces.take k).flatMap (·.addrs)).contains a)/\m=s.faces.length - k/\
   e=[(5,.d (.v (.int .i64 k))),(4,.d (.v (.bool F))),(3,.d (.v (.int .i64 a))),(2,.d (.v (.int .i64 0))),(1,.ptr 0 0)]/\h=[.box 107 ((aX s).map .d)]) _ _ _ ⟨0,B,XD _,by simp,rfl,rfl,rfl⟩ (wf) ?_
  rintro m2 e h ⟨k,F,hk,hF,iQ,rfl,rfl⟩ C2 j6;replace iQ:=Xj iQ;replace hF:=Xj hF;by_cases hlt:k < s.faces.length
  ·have eo:(k:Int) < (s.faces.length:Int):=aa;have db:=wi k aa;obtain⟨f,hf⟩:∃f,s.faces[k]? =some f:=⟨_,Xk hlt⟩;have gX:=h4 f (Xl hf);refine ap ?_<;>intros;refine bQ ag am (fun m e h=>∃(j:Nat) (F2:Bool),j<=f.addrs.length/\F2=(B&&!((s.faces.take k).flatMap (·.addrs)++f.addrs.take j).contains a)/\m=f.addrs.length - j/\
    e=[(6,.d (.v (.int .i64 j))),(5,.d (.v (.int .i64 k))),(4,.d (.v (.bool F2))),(3,.d (.v (.int .i64 a))),(2,.d (.v (.int .i64 0))),(1,.ptr 0 0)]/\h=[.box 107 ((aX s).map .d)]) _ _ _ ⟨0,F,XD _,by rw[hF.out];simp,rfl,rfl,rfl⟩ (wf) ?_
   rintro m3 e h ⟨j,F2,hj,S7,hm3,rfl,rfl⟩ C3 S1;replace hm3:=Xj hm3;replace S7:=Xj S7;by_cases ro:j < f.addrs.length
   ·have lz:(j:Int) < (f.addrs.length:Int):=aa;have nI:=wi j aa;obtain⟨x,hx⟩:∃x,f.addrs[j]? =some x:=⟨_,Xk ro⟩;have ec:(B&&!((s.faces.take k).flatMap (·.addrs)++f.addrs.take (j+1)).contains a)=(F2&&(x !=a)):=by
     rw[S7.out,ak hx,<-XV];generalize (s.faces.take k).flatMap (·.addrs)++f.addrs.take j=L;cases B
     ·rfl
     ·rw[Ys,Ys,Yk];simp[Z3,X0];intro _;exact⟨fun h e=>h e.symm,fun h e=>h e.symm⟩
    replace ec:=Xj ec;cases F2 with
    |true=>
     refine ap ?_<;>intros;refine S1 _ _ _ _ _ ?_ ⟨j+1,(x !=a),ro,by rw[ec.out];rfl,rfl,rfl,rfl⟩ (wf);have:=hm3.out;omega
    |false=>
     refine ap ?_<;>intros;refine S1 _ _ _ _ _ ?_ ⟨j+1,false,ro,by rw[ec.out];rfl,rfl,rfl,rfl⟩ (wf);have:=hm3.out;omega
   ·obtain rfl:j=f.addrs.length:=aa;have ec:F2=(B&&!((s.faces.take (k+1)).flatMap (·.addrs)).contains a):=by
     rw[S7.out,Xq,ak hf,YN];simp
    replace ec:=Xj ec;refine ap ?_<;>intros;refine j6 _ _ _ _ _ ?_ ⟨k+1,F2,hlt,ec.out,rfl,rfl,rfl⟩ (wf);have:=iQ.out;omega
  ·obtain rfl:k=s.faces.length:=aa;have S7:=hF.out;rw[Xq]at S7;replace S7:=Xj S7;clear hF;have hi1:∀n,gm (s.faces.flatMap (·.addrs)) s.at_ (n+1) a=if B=true then (if a∈s.faces.flatMap (·.addrs)then gm (s.faces.flatMap (·.addrs)) s.at_ n (a+1)else some a)else none:=fun n=>by rw[gm,<-hB.out]
   have hnn:65537 - i=(65536 - i)+1:=aa;replace hi1:=Xj hi1;cases F with
   |true=>
    have hb:R=a:=by
     have h1:=S7.out;have V9:B=true:=by cases B<;>simp at h1 ⊢
     have hau:a∉s.faces.flatMap (·.addrs):=by
      rw[V9,Ys]at h1;intro hm;rw[Z3.2 hm]at h1;simp at h1
     have mZ:0 < i:=by
      have h2:=(uh hr).1 (by rw[<-hB.out];exact V9);have:=ha.out;omega
     rw[hR.out,hle.out mZ,hnn,hi1.out,aj V9,af hau];rfl
    rw[hb];replace hb:=Xj hb;exact bc;all_goals exact aP.refl _
   |false=>
    have V3:eU s=gm (s.faces.flatMap (·.addrs)) s.at_ (65537 - (i+1)) (a+1):=by
     rw[show 65537 - (i+1)=65536 - i by omega];have h1:=S7.out;by_cases mZ:0 < i
     ·rw[hle.out mZ,hnn,hi1.out];by_cases V9:B=true
      ·rw[aj V9,aj];rw[V9,Ys]at h1;rw[<-Z3];revert h1;cases(s.faces.flatMap (·.addrs)).contains a<;>simp
      ·rw[af V9];have h2:jh s.at_ (a+1)=false:=by
        rw[YD,ne_eq,uh hr];intro h3;have h4:jh s.at_ a=true:=(uh hr).2 ⟨by have:=ha.out;omega,by omega⟩;rw[<-hB.out]at h4;exact V9 h4
       rw[CW h2]
     ·obtain rfl:i=0:=aa;have:=ha.out;rw[show a+1=s.at_.at_+1 by omega];rfl
    replace V3:=Xj V3;refine ap ?_<;>intros;refine hC _ _ _ _ _ ?_ ⟨i+1,a+1,by rw[ha.out];omega,by have:=rq.out;omega,fun _=>V3.out,rfl,rfl,rfl⟩ (wf);have:=hm.out;omega
 ·have V7:decide (a<=s.at_.hi - 1)=false:=by simpa using rq
  have hb:R= -1:=by
   have h2:jh s.at_ a=false:=by
    rw[YD,ne_eq,uh hr];omega
   rw[hR.out,hle.out (by have:=ha.out;omega),CW h2];rfl
  rw[hb];replace hb:=Xj hb;replace rq:=Xj rq;exact bc;all_goals exact aP.refl _
theorem Ah {u:List Int}{p:Pfx}{a:Int}:∀{n:Nat}{b:Int},gm u p n b=some a->jh p a=true
 |0,_,h=>by simp[gm]at h
 |n+1,b,h=>by
  rw[gm]at h;split at h
  ·rename_i hb;split at h
   ·exact Ah h
   ·rw[<-XW.inj h];exact hb
  ·cases h
theorem NV (v:Vpc)(sub id:Int)(hl:v.subs.length<=9223372036854775807)(hf:∀s∈v.subs,s.faces.length<=9223372036854775807):ai prog 152 [.agg (ax v),.v (.int .i64 sub),.v (.int .i64 id)] (.tup [.agg (ax (iu v sub id).1),.v (.int .i64 (iu v sub id).2.1),.v (.int .i64 (iu v sub id).2.2)]):=by
 obtain⟨R,hR⟩:∃R,R=iu v sub id:=⟨_,rfl⟩;rw[<-hR];replace hR:=Xj hR;have bp:=io v hl hf;clear hl hf;by_cases hc:bT v=0
 ·have hk:=aY hc;have Om:=hk.n4;have H6:=hk.n6;have dK:=xQ v sub aa;unfold cv at dK
  have aQ:=hR.out;unfold iu at aQ;rw[af (by simpa using hc)]at aQ;rw[hc]at bp;clear hR hc;have Bt:decide ((-1:Int) < 0)=true:=rfl;cases hf:v.subs.findIdx? (fun s=>s.id==sub)with
  |none=>
   rw[hf]at dK aQ;simp only at dK aQ;rw[aQ];replace aQ:=Xj aQ;clear hk hf;refine pj func152 ntmps152 results152 ?_;refine ap ?_<;>intros;all_goals exact dg
  |some i=>
   obtain⟨pre,s,post,hv,jC,-,hs⟩:=gn hf;have lR:=Xl hs;have jF:=hk.n8 s lR;have iM:=Rv v pre post s hv hk.n4 hk.n6 hk.n8;have hsr:=rd hk lR;have hle:=Hj s jF.1 jF.2 hsr.1;have hw:ai prog 55 [.v (.int .i64 id),.v (.int .i64 1),.v (.int .i64 65536)] (.v (.bool (cB id))):=gG _ _ _;have lA:=Ag s id aa;have mZ:decide ((i:Int) < 0)=false:=ah;have rV:v.subs.length=pre.length+1+post.length:=by rw[hv];simp;omega
   rw[hf]at dK aQ;simp only[hs]at dK aQ;have ec:=Xj hsr.2.2.1;clear hk hf hsr;have hf0:=gq (fun f:Fce=>f.id==id) s.faces;obtain⟨J,hJ⟩:∃J,J=cv (fun f:Fce=>f.id==id) s.faces:=⟨_,rfl⟩;rw[<-hJ]at lA hf0;clear hJ;unfold lQ at aQ;by_cases bL:cB id=false\/(s.faces.any fun f=>f.id==id)=true\/s.faces.length=8\/(eU s).isSome=false
   ·replace hv:=Xj hv;clear iM jC rV;cases b1:cB id with
    |false=>
     rw[b1]at aQ hw;have hr:R=(Vpc.zero,0,3):=by rw[aQ];rfl
     rw[hr];replace hr:=Xj hr;clear aQ bL;refine pj func152 ntmps152 results152 ?_;refine ap ?_<;>intros;all_goals exact dg
    |true=>
    rw[b1]at aQ hw;cases b2:s.faces.any fun f=>f.id==id with
    |true=>
     rw[b2]at aQ hf0;have hr:R=(Vpc.zero,0,6):=by rw[aQ];simp
     rw[hr];replace hr:=Xj hr;clear aQ bL;refine pj func152 ntmps152 results152 ?_;refine ap ?_<;>intros;all_goals exact dg
    |false=>
    rw[b2]at aQ hf0;by_cases b3:s.faces.length=8
    ·have hr:R=(Vpc.zero,0,2):=by rw[aQ];simp[b3]
     have hd:decide ((s.faces.length:Int)>=8)=true:=aK;rw[hr];replace hr:=Xj hr;replace b3:=Xj b3;clear aQ bL;refine pj func152 ntmps152 results152 ?_;refine ap ?_<;>intros;all_goals exact dg
    ·have hd:decide ((s.faces.length:Int)>=8)=false:=aK;have b4:eU s=none:=by
      rcases bL with h|h|h|h
      ·rw[b1]at h;cases h
      ·rw[b2]at h;cases h
      ·exact absurd h b3
      ·simpa using h
     have hr:R=(Vpc.zero,0,8):=by rw[aQ];simp[b3,b4]
     rw[b4,Option.getD_none]at hle;have Bt:decide ((-1:Int) < 0)=true:=rfl;rw[hr];replace hr:=Xj hr;clear aQ bL b4;refine pj func152 ntmps152 results152 ?_;refine ap ?_<;>intros;all_goals exact dg
   ·obtain⟨b1,bL⟩:=not_or.1 bL;obtain⟨b2,bL⟩:=not_or.1 bL;obtain⟨b3,b4⟩:=not_or.1 bL;simp only[Bool.not_eq_false,Bool.not_eq_true]at b1 b2 b4;obtain⟨a,ha⟩:=Zo.1 b4;have hae:0<=a:=by
     have h1:=D2 (Ah (show gm _ _ _ _=some a from ha));obtain⟨-,-,r3,-,-⟩:=s.at_.bd h1.1;omega
    rw[b1]at hw;rw[b2]at hf0;rw[ha,Yp]at hle;have ha0:decide (a < 0)=false:=by simpa using hae
    have hd:decide ((s.faces.length:Int)>=8)=false:=aK;have j7:(s.faces.length+1)*32<=140737488355328:=aa;have go:R=({v with subs:=pre++{s with faces:=dv (·.id) ⟨id,[a]⟩ s.faces}::post},a,0):=by
     rw[aQ,af (by simp[b1,b2,b3,ha]),ha,Yp];rw[hv,<-jC,Yu _ _ (Xz _),YF,XQ]
    clear aQ;replace hv:=Xj hv;replace go:=Xj go;replace b2:=Xj b2;clear b4;have hwl:IntKind.i64.wrap (((s.faces.length+1:Nat):Int) - 1)=(s.faces.length:Int):=by rw[IntKind.wrap_i64];omega
    subst jC;refine pj func152 ntmps152 results152 ?_;have z1z:=@cy.eq_1;have z2z:=Ln.mk (ls:=[]) (iM);refine ap ?_<;>intros;clear bp dK hle hw lA iM;have a0H:∀f∈s.faces,f.id≠id:=fun f hf he=>by
     have:=Yh.1 b2.out f hf;simp at this;exact this he
    replace a0H:=Xj a0H;refine bQ ag am (fun m e h=>∃(q:Nat) (out:List Fce),Eb (fun f:Fce=>f.id) ⟨id,[a]⟩ s.faces q out/\out.length=s.faces.length+1/\m=q/\e=[(14,.d (.v (.int .i64 q))),(13,.rp 6 (pre.length+1+post.length) 4 pre.length 0),(12,.ptr 9 0),(11,.d (.v (.int .i64 a))),(6,.ptr 1 0)]/\h=[.box 88 ((ax v).map .d),.box 88 [.d (.v (.int .i64 0)),.d (.v (.slice none 0 0)),.d (.v (.slice none 0 0))],.gone,.gone,.row 100 3 1 (ab (v.ranges.map bE)),.gone,.row 107 4 (pre.length+1+post.length) (fA aX pre (cy s (.own 8 (s.faces.length+1))) post),.gone,.row 110 2 (s.faces.length+1) (ab (out.map cl)),.box 88 [.d (.v (.int .i64 v.id)),.own 4 1,.own 6 (pre.length+1+post.length)]]) _ _ _ ⟨s.faces.length,s.faces++[⟨id,[a]⟩],Rj,by simp,rfl,rfl,rfl⟩ (wf (hh:=(by rw[Xo];rfl)) (hb:=cK) (hbh:=cK)) ?_;rintro m e h ⟨q,out,xb,pM,hm,rfl,rfl⟩ C hC;have vZ:=xb.1;have hx:=Rk xb;replace xb:=Xj xb;replace hm:=Xj hm;by_cases h0:0 < q
    ·have hq0:decide ((q:Int)>0)=true:=aK;obtain⟨y,hy⟩:∃y,s.faces[q - 1]? =some y:=⟨_,Xk aa⟩;have SZ:=Rl xb.out h0 hy;have C9:IntKind.i64.wrap ((q:Int) - 1)=((q - 1:Nat):Int):=by rw[IntKind.wrap_i64];omega
     have qD:q < out.length:=aa;have hq3:q - 1 < out.length:=aa;replace pM:=Xj pM;replace h0:=Xj h0;replace hy:=Xj hy;cases b5:decide (y.id>id)with
     |true=>
      have iO:=Rm xb.out h0.out hy.out (of_decide_eq_true b5);replace iO:=Xj iO;have Bq:∀X:List PV,((ab (out.map cl)).set (q - 1) X)[q]? =some [.d (.v (.int .i64 id)),.d (.sl 1 [cF a])]:=fun X=>by
       rw[Q' (by have:=h0.out;omega),iC,Xy,hx];rfl
      have z1z:=@cy.eq_1;refine ap ?_<;>intros;refine hC _ _ _ _ _ ?_ ⟨q - 1,(out.set (q - 1) ⟨id,[a]⟩).set q y,iO.out,by rw[YX,YX];exact pM.out,rfl,rfl,rfl⟩ (wf (hh:=(by simp only[Z7,ab];rfl)) (hb:=cK) (hbh:=cK));have:=hm.out;have:=h0.out;omega
     |false=>
      have he:=CU xb.out ec.out (fun z _ hz=>by
       rw[hy.out]at hz;rw[<-XW.inj hz];have h1:=a0H.out y (Xl hy.out);have h2:=of_decide_eq_false b5;show y.id < id;omega)
      rw[<-he]at go;have ld:=go.out;rw[ld];replace ld:=Xj ld;replace he:=Xj he;have z1z:=@cy.eq_1;refine ap ?_<;>intros;all_goals(simp only[ax,aX,Xo,Xm];exact dg)
    ·have hq0:decide ((q:Int)>0)=false:=aK;have he:=CU xb.out ec.out (fun z h _=>absurd h h0);rw[<-he]at go;have ld:=go.out;rw[ld];replace ld:=Xj ld;replace he:=Xj he;replace h0:=Xj h0;have qD:q < out.length:=aa;replace pM:=Xj pM;have z1z:=@cy.eq_1;refine ap ?_<;>intros;all_goals(simp only[ax,aX,Xo,Xm];exact dg)
 ·have h1:(bT v !=0)=true:=by simpa using hc
  have hr:R=(Vpc.zero,0,bT v):=by rw[hR.out];unfold iu;rw[aj hc]
  rw[hr];replace hr:=Xj hr;clear hR;refine pj func152 ntmps152 results152 ?_;refine ap ?_<;>intros;exact dg
theorem W6 (v:Vpc)(pre post:List Sbn)(s0:Sbn)(preF postF:List Fce)(f0:Fce)(hv:v.subs=pre++s0::post)(BB:s0.faces=preF++f0::postF)(h4:v.ranges.length<=4)(h6:v.subs.length<=6)(h8:∀s∈v.subs,s.faces.length<=8/\∀f∈s.faces,f.addrs.length<=4):
 MSpec prog 87 [.d (.agg (ax v))] [] (.agg [.d (.v (.int .i64 v.id)),.own 2 1,.own 4 v.subs.length]) [.gone,.gone,.row 100 3 1 (ab (v.ranges.map bE)),.gone,.row 107 4 v.subs.length (fA aX pre (cy s0 (.own 6 s0.faces.length)) post),.gone,.row 110 2 s0.faces.length (fA cl preF (eB f0 (.own 8 1)) postF),.gone,.row 3 1 1 (ab (f0.addrs.map cF))]:=by
 replace h8:=Xj h8;have bB:v.subs.length=pre.length+1+post.length:=by rw[hv];simp;omega
 have hL:=Xj hv;have bN:=Xj bB;clear hv bB;have HY:s0.faces.length=preF.length+1+postF.length:=by rw[BB];simp;omega
 have hLF:=Xj BB;have iz:=Xj HY;clear BB HY;refine mj func87 ntmps87 results87 ?_;refine ap ?_<;>intros;refine bQ ag am (fun m e h=>(∃k,k<=pre.length/\m=v.subs.length - k/\e=[(4,.d (.v (.int .i64 k))),(3,.ptr 3 0),(2,.ptr 1 0),(1,.ptr 0 0)]/\h=[.box 88 ((ax v).map .d),.box 88 [.d (.v (.int .i64 0)),.d (.v (.slice none 0 0)),.d (.v (.slice none 0 0))],.row 100 3 1 (ab (v.ranges.map bE)),.box 88 [.d (.v (.int .i64 v.id)),.own 2 1,.own 4 k],.row 107 4 k (ab ((pre.take k).map aX))])\/
  ∃k j,k=pre.length+1+j/\j<=post.length/\m=v.subs.length - k/\e=[(4,.d (.v (.int .i64 k))),(3,.ptr 3 0),(2,.ptr 1 0),(1,.ptr 0 0)]/\h=[.box 88 ((ax v).map .d),.box 88 [.d (.v (.int .i64 0)),.d (.v (.slice none 0 0)),.d (.v (.slice none 0 0))],.row 100 3 1 (ab (v.ranges.map bE)),.box 88 [.d (.v (.int .i64 v.id)),.own 2 1,.own 4 k],.row 107 4 k (fA aX pre (cy s0 (.own 6 s0.faces.length)) (post.take j)),.gone,.row 110 2 s0.faces.length (fA cl preF (eB f0 (.own 8 1)) postF),.gone,.row 3 1 1 (ab (f0.addrs.map cF))]) _ _ _ (.inl ⟨0,XD _,rfl,rfl,rfl⟩) ?_ ?_
 ·exact a3R
 ·rintro m e h (⟨k,hk,hm,rfl,rfl⟩|⟨k,q,EF,hj,hm,rfl,rfl⟩) CO we
  ·have eo:(k:Int) < (v.subs.length:Int):=by have:=bN.out;omega
   have db:=wi k aa;have j7:k+1<=100:=by have:=bN.out;omega
   have li:(Yf k pre).length=k:=by rw[Xp];omega
   have hm:=Xj hm;by_cases nu:k < pre.length
   ·exact Or
   ·obtain rfl:k=pre.length:=aa;have hs:v.subs[pre.length]? =some s0:=by rw[hL.out,XH (Xz _),YF];rfl
    have jF:=h8.out s0 (Xl hs);replace hs:=Xj hs;have mQ:=hs.out;obtain⟨k,jV⟩:∃k,k=pre.length:=⟨_,rfl⟩;rw[<-jV]at mQ eo db j7 li we ⊢;rw[jV,Xq]at li;replace jV:=Xj jV;refine ap ?_<;>intros;refine bQ ag am (fun m e h=>(∃j,j<=preF.length/\m=s0.faces.length - j/\e=[(6,.d (.v (.int .i64 j))),(5,.ptr 5 0),(4,.d (.v (.int .i64 k))),(3,.ptr 3 0),(2,.ptr 1 0),(1,.ptr 0 0)]/\
     h=[.box 88 ((ax v).map .d),.box 88 [.d (.v (.int .i64 0)),.d (.v (.slice none 0 0)),.d (.v (.slice none 0 0))],.row 100 3 1 (ab (v.ranges.map bE)),.box 88 [.d (.v (.int .i64 v.id)),.own 2 1,.own 4 k],.row 107 4 k (ab ((pre.take k).map aX)),.box 107 [.d (.v (.int .i64 s0.id)),.d (.v (.int .i64 s0.at_.at_)),.d (.v (.int .i64 s0.at_.len)),.own 6 j],.row 110 2 j (ab ((preF.take j).map cl))])\/
     ∃j i,j=preF.length+1+i/\i<=postF.length/\m=s0.faces.length - j/\e=[(6,.d (.v (.int .i64 j))),(5,.ptr 5 0),(4,.d (.v (.int .i64 k))),(3,.ptr 3 0),(2,.ptr 1 0),(1,.ptr 0 0)]/\
      h=[.box 88 ((ax v).map .d),.box 88 [.d (.v (.int .i64 0)),.d (.v (.slice none 0 0)),.d (.v (.slice none 0 0))],.row 100 3 1 (ab (v.ranges.map bE)),.box 88 [.d (.v (.int .i64 v.id)),.own 2 1,.own 4 k],.row 107 4 k (ab ((pre.take k).map aX)),.box 107 [.d (.v (.int .i64 s0.id)),.d (.v (.int .i64 s0.at_.at_)),.d (.v (.int .i64 s0.at_.len)),.own 6 j],.row 110 2 j (fA cl preF (eB f0 (.own 8 1)) (postF.take i)),.gone,.row 3 1 1 (ab (f0.addrs.map cF))]) _ _ _ (.inl ⟨0,XD _,rfl,rfl,rfl⟩) ?_ ?_
    ·refine(ay ah 5 107 [.d (.v (.int .i64 s0.id)),.d (.v (.int .i64 s0.at_.at_)),.d (.v (.int .i64 s0.at_.len)),.d (.v (.slice none 0 0))] 3 110 2 rfl rfl rfl).trans ?_;exact wf (hb:=cK) (hbh:=cK)
    ·rintro m2 e h (⟨j,hj,iQ,rfl,rfl⟩|⟨j,i,lf,hi,iQ,rfl,rfl⟩) C hC
     ·have lz:(j:Int) < (s0.faces.length:Int):=by have:=iz.out;omega
      have nI:IntKind.i64.wrap ((j:Int)+1)=((j+1:Nat):Int):=by rw[IntKind.wrap_i64];have:=jF.1;omega
      have iO:j+1<=100:=by have:=jF.1;omega
      have ro:(Yf j preF).length=j:=by rw[Xp];omega
      have iQ:=Xj iQ;by_cases AR:j < preF.length
      ·obtain⟨f,hq⟩:∃f,preF[j]? =some f:=⟨_,Xk AR⟩;have hf:s0.faces[j]? =some f:=by rw[hLF.out,X5 AR];exact hq
       have gX:=jF.2 f (Xl hf);replace hf:=Xj hf;replace hq:=Xj hq;have Dd:=hf.out;refine ap ?_<;>intros;refine hC _ _ _ _ _ ?_ (.inl ⟨j+1,AR,rfl,rfl,rfl⟩) ((av 8 1 3 1 (f.addrs.map cF) rfl).trans ?_)
       ·exact a5B
       simp only[jq,fz,ij,gM,iS,gI,aT,bW,ce,Xm,Xr,XL,XK,reduceIte,and_true,true_and,and_self,and_false,false_and,XE,XT,reduceCtorEq,dn];exact wf (hh:=(by rw[ak hq.out,Xo,Xm,Xr,<-aI];rfl)) (hb:=cK) (hbh:=cK)
      ·obtain rfl:j=preF.length:=aa;have hf:s0.faces[preF.length]? =some f0:=by rw[hLF.out,XH (Xz _),YF];rfl
       have gX:=jF.2 f0 (Xl hf);replace hf:=Xj hf;have Dd:=hf.out;refine ap ?_<;>intros;refine hC _ _ _ _ _ ?_ (.inr ⟨preF.length+1,0,rfl,XD _,rfl,rfl,rfl⟩) ((aL 7 ah).trans ?_)
       ·exact a5B
       exact wf (hb:=cK) (hbh:=cK)
     ·have iQ:=Xj iQ;have Eu:=Xj lf;have iO:preF.length+1+i+1<=100:=by have:=iz.out;have:=jF.1;omega
      have hli:(Yf i postF).length=i:=by rw[Xp];omega
      have R8:j<=s0.faces.length:=by have:=iz.out;omega
      by_cases hip:i < postF.length
      ·obtain⟨f,hq⟩:∃f,postF[i]? =some f:=⟨_,Xk hip⟩;have hf:s0.faces[j]? =some f:=by
        rw[hLF.out,XH aa,show j - preF.length=i+1 by omega,Yw];exact hq
       have gX:=jF.2 f (Xl hf);have lz:(j:Int) < (s0.faces.length:Int):=by have:=iz.out;omega
       have nI:IntKind.i64.wrap ((j:Int)+1)=((j+1:Nat):Int):=by rw[IntKind.wrap_i64];have:=jF.1;omega
       replace hf:=Xj hf;replace hq:=Xj hq;have Dd:=hf.out;clear lf;refine ap ?_<;>intros;refine hC _ _ _ _ _ ?_ (.inr ⟨j+1,i+1,by have:=Eu.out;omega,hip,rfl,rfl,rfl⟩) ((av 10 1 3 1 (f.addrs.map cF) rfl).trans ?_)
       ·have:=iQ.out;have:=iz.out;have:=Eu.out;omega
       simp only[jq,fz,ij,gM,iS,gI,aT,bW,ce,Xm,Xr,XL,XK,reduceIte,and_true,true_and,and_self,and_false,false_and,XE,XT,reduceCtorEq,dn,eB];exact wf (hh:=(by rw[ak hq.out,<-lY];rfl)) (hb:=cK) (hbh:=cK)
      ·exact a3I
  ·have hm:=Xj hm;have uB:=Xj EF;have j7:pre.length+1+q+1<=100:=by have:=bN.out;omega
   have li:(Yf q post).length=q:=by rw[Xp];omega
   have xT:k<=v.subs.length:=by have:=bN.out;omega
   by_cases AR:q < post.length
   ·obtain⟨s,hq⟩:∃s,post[q]? =some s:=⟨_,Xk AR⟩;have hs:v.subs[k]? =some s:=by
     rw[hL.out,XH aa,show k - pre.length=q+1 by omega,Yw];exact hq
    have jF:=h8.out s (Xl hs);have eo:(k:Int) < (v.subs.length:Int):=by have:=bN.out;omega
    have db:=wi k aa;replace hq:=Xj hq;replace hs:=Xj hs;have mQ:=hs.out;clear EF;refine ap ?_<;>intros;refine bf ag am s.faces (fun _=>True) (fun j=>[(6,.d (.v (.int .i64 j))),(5,.ptr 9 0),(4,.d (.v (.int .i64 k))),(3,.ptr 3 0),(2,.ptr 1 0),(1,.ptr 0 0)])
     (fun j=>[.box 88 ((ax v).map .d),.box 88 [.d (.v (.int .i64 0)),.d (.v (.slice none 0 0)),.d (.v (.slice none 0 0))],.row 100 3 1 (ab (v.ranges.map bE)),.box 88 [.d (.v (.int .i64 v.id)),.own 2 1,.own 4 k],.row 107 4 k (fA aX pre (cy s0 (.own 6 s0.faces.length)) (post.take q)),.gone,.row 110 2 s0.faces.length (fA cl preF (eB f0 (.own 8 1)) postF),.gone,.row 3 1 1 (ab (f0.addrs.map cF)),.box 107 [.d (.v (.int .i64 s.id)),.d (.v (.int .i64 s.at_.at_)),.d (.v (.int .i64 s.at_.len)),.own 10 j],.row 110 2 j (ab ((s.faces.take j).map cl))]) trivial ?_ ?_ ?_
    ·refine(ay ah 9 107 [.d (.v (.int .i64 s.id)),.d (.v (.int .i64 s.at_.at_)),.d (.v (.int .i64 s.at_.len)),.d (.v (.slice none 0 0))] 3 110 2 rfl rfl rfl).trans ?_;exact wf (hb:=cK) (hbh:=cK)
    ·intro j f hf hj _ C hC;have lz:(j:Int) < (s.faces.length:Int):=aa;have nI:=wi j aa;have gX:=jF.2 f (Xl hf);have iO:j+1<=100:=aa;have ro:(Yf j s.faces).length=j:=by rw[Xp];omega
     replace hf:=Xj hf;have Dd:=hf.out;refine ap ?_<;>intros;refine hC _ _ trivial ((av 12 1 3 1 (f.addrs.map cF) rfl).trans ?_);simp only[jq,fz,ij,gM,iS,gI,aT,bW,ce,Xm,Xr,XL,XK,reduceIte,and_true,true_and,and_self,and_false,false_and,XE,XT,reduceCtorEq,dn];exact wf (hh:=(by rw[ak hf.out,Xo,Xm,Xr,<-aI];rfl)) (hb:=cK) (hbh:=cK)
    ·intro _ C;refine ap ?_<;>intros;refine we _ _ _ _ _ ?_ (.inr ⟨k+1,q+1,by have:=uB.out;omega,AR,rfl,rfl,rfl⟩) ((av 10 s.faces.length 110 2 (s.faces.map cl) rfl).trans ?_)
     ·exact a4u
     simp only[jq,fz,ij,gM,iS,gI,aT,bW,ce,Xm,Xr,XL,XK,reduceIte,and_true,true_and,and_self,and_false,false_and,XE,XT,reduceCtorEq,dn,cy];exact wf (hh:=(by rw[ak hq.out,<-lY];rfl)) (hb:=cK) (hbh:=cK)
   ·exact a3W
theorem a6m {p:Prop}(h:p:=by
 intro h;have:=congrArg O' h;rw[aG,XB,XX]at this;omega):p:=h
theorem Hk {α:Type}{enc:α->List D}{l:List α}{i:Nat}(hi:i < l.length):(aB (ab (l.map enc)) i (Yf (l.length - (i+1)) (_C (i+1) (ab (l.map enc))))).length=l.length:=by
 have:=m9 (ab (l.map enc)) i (i+1) l.length (by rw[aG,XB];exact hi) rfl (by rw[aG,XB]);rw[aG,XB]at this;exact this
theorem Hl {α:Type}{enc:α->List D}{l:List α}{i:Nat}(hi:i < l.length):Yf (i+(l.length - (i+1))) (aB (ab (l.map enc)) i (Yf (l.length - (i+1)) (_C (i+1) (ab (l.map enc)))))=ab ((l.eraseIdx i).map enc):=by
 have hL:(ab (l.map enc)).length=l.length:=by rw[aG,XB]
 have e1:ab ((l.eraseIdx i).map enc)=(ab (l.map enc)).eraseIdx i:=by rw[gB];exact gB _ _ _
 rw[e1];generalize ab (l.map enc)=L at*;have e2:Yf (l.length - (i+1)) (_C (i+1) L)=_C (i+1) L:=XG (by rw[XS];omega);rw[e2];unfold aB;rw[XV,List.take_append,List.take_take,Xp];rw[show min (i+(l.length - (i+1))) i=i by omega,show min i L.length=i by omega,show i+(l.length - (i+1)) - i=(_C (i+1) L).length by rw[XS];omega];rw[List.take_left',YI];rfl
theorem JC (v:Vpc)(id:Int)(hl:v.subs.length<=9223372036854775807)(hf:∀s∈v.subs,s.faces.length<=9223372036854775807):ai prog 151 [.agg (ax v),.v (.int .i64 id)] (.tup [.agg (ax (fR v id).1),.v (.int .i64 (fR v id).2)]):=by
 obtain⟨R,hR⟩:∃R,R=fR v id:=⟨_,rfl⟩;rw[<-hR];replace hR:=Xj hR;have bp:=io v hl hf;clear hl hf;by_cases hc:bT v=0
 ·have hk:=aY hc;have Om:=hk.n4;have H6:=hk.n6;have iM:=zU v hk.n4 hk.n6 hk.n8;have dK:=xQ v id aa;unfold cv at dK
  have aQ:=hR.out;unfold fR at aQ;rw[af (by simpa using hc)]at aQ;rw[hc]at bp;clear hR hc;cases hf:v.subs.findIdx? (fun s=>s.id==id)with
  |none=>
   rw[hf]at dK aQ;simp only at dK aQ;have Bt:decide ((-1:Int) < 0)=true:=rfl;rw[aQ];replace aQ:=Xj aQ;clear hk hf;refine pj func151 ntmps151 results151 ?_;refine ap ?_<;>intros;all_goals exact dg
  |some i=>
   obtain⟨s,hs⟩:∃s,v.subs[i]? =some s:=⟨_,Xk (XI.1 hf).1⟩;have hi:=(XI.1 hf).1;rw[hf]at dK aQ;simp only[hs,Yg,ne_eq,XW.injEq]at dK aQ;have mZ:decide ((i:Int) < 0)=false:=ah;have rV:=(hk.n8 s (Xl hs)).1;clear hk hf;by_cases h0:s.faces.length=0
   ·rw[af (by simpa using h0)]at aQ;have hd:decide ((s.faces.length:Int)>0)=false:=by simp[h0]
    have db:=wi i aa;have h0i:(0:Int)<=(i:Int):=aa;have a3A:(i:Int)<=(v.subs.length:Int):=aa;have a3q:((i+1:Nat):Int)<=(v.subs.length:Int):=aa;have bH:¬ab (v.subs.map aX)=[]:=a6m
    have nq:=Hk (enc:=aX) hi;have j5:=Hl (enc:=aX) hi;have EN:0 < v.subs.length:=aa;have HU:min (v.subs.length - (i+1)) (v.subs.length - (i+1))=v.subs.length - (i+1):=Zr _;have hlt:i+(v.subs.length - (i+1))<=v.subs.length:=aa;rw[aQ];replace aQ:=Xj aQ;replace h0:=Xj h0;refine pj func151 ntmps151 results151 ?_;have z1z:=@Xp.{0};have z2z:=@XS.{0};have z3z:=Ln.mk (ls:=[]) (iM);refine ft ?_ ?_ ?_ ?_ ?_ ?_ ?_ ?_<;>first|(with_reducible exact True.intro)|intros
    all_goals exact dg
   ·rw[aj (by simpa using h0)]at aQ;have hd:decide ((s.faces.length:Int)>0)=true:=aK;rw[aQ];replace aQ:=Xj aQ;refine pj func151 ntmps151 results151 ?_;refine ap ?_<;>intros;all_goals exact dg
 ·have h1:(bT v !=0)=true:=by simpa using hc
  have hr:R=(Vpc.zero,bT v):=by rw[hR.out];unfold fR;rw[aj hc]
  rw[hr];replace hr:=Xj hr;clear hR;refine pj func151 ntmps151 results151 ?_;refine ap ?_<;>intros;exact dg
theorem Hn (v:Vpc)(sub id:Int)(hl:v.subs.length<=9223372036854775807)(hf:∀s∈v.subs,s.faces.length<=9223372036854775807):ai prog 154 [.agg (ax v),.v (.int .i64 sub),.v (.int .i64 id)] (.tup [.agg (ax (eh v sub id).1),.v (.int .i64 (eh v sub id).2)]):=by
 obtain⟨R,hR⟩:∃R,R=eh v sub id:=⟨_,rfl⟩;rw[<-hR];replace hR:=Xj hR;have bp:=io v hl hf;clear hl hf;by_cases hc:bT v=0
 ·have hk:=aY hc;have Om:=hk.n4;have H6:=hk.n6;have dK:=xQ v sub aa;unfold cv at dK
  have aQ:=hR.out;unfold eh at aQ;rw[af (by simpa using hc)]at aQ;rw[hc]at bp;clear hR hc;have Bt:decide ((-1:Int) < 0)=true:=rfl;cases hf:v.subs.findIdx? (fun s=>s.id==sub)with
  |none=>
   rw[hf]at dK aQ;simp only at dK aQ;rw[aQ];replace aQ:=Xj aQ;clear hk hf;refine pj func154 ntmps154 results154 ?_;refine ap ?_<;>intros;all_goals exact dg
  |some i=>
   obtain⟨pre,s,post,hv,jC,-,hs⟩:=gn hf;have jF:=hk.n8 s (Xl hs);have iM:=Rv v pre post s hv hk.n4 hk.n6 hk.n8;have lA:=Ag s id aa;unfold cv at lA;have mZ:decide ((i:Int) < 0)=false:=ah;have rV:v.subs.length=pre.length+1+post.length:=by rw[hv];simp;omega
   rw[hf]at dK aQ;simp only[hs]at dK aQ;clear hk hf;cases hg:s.faces.findIdx? (fun f=>f.id==id)with
   |none=>
    rw[hg]at lA aQ;simp only at lA aQ;rw[aQ];replace aQ:=Xj aQ;clear iM;replace hv:=Xj hv;clear hg jC rV;refine pj func154 ntmps154 results154 ?_;refine ap ?_<;>intros;all_goals exact dg
   |some k=>
    have xT:k < s.faces.length:=(XI.1 hg).1;rw[hg]at lA aQ;simp only at lA aQ;rw[show v.subs.set i {s with faces:=s.faces.eraseIdx k}=pre++{s with faces:=s.faces.eraseIdx k}::post by
     rw[hv,<-jC,Yu _ _ (Xz _),YF,XQ]]at aQ
    have hk0:decide ((k:Int) < 0)=false:=ah;have db:=wi k aa;have bH:¬ab (s.faces.map cl)=[]:=a6m
    have nq:=Hk (enc:=cl) xT;have j5:=Hl (enc:=cl) xT;have EN:0 < s.faces.length:=aa;have HU:min (s.faces.length - (k+1)) (s.faces.length - (k+1))=s.faces.length - (k+1):=Zr _;have hlt:k+(s.faces.length - (k+1))<=s.faces.length:=aa;rw[aQ];replace aQ:=Xj aQ;replace hv:=Xj hv;subst jC;clear hg;refine pj func154 ntmps154 results154 ?_;have z1z:=@cy.eq_1;have z2z:=@Xp.{0};have z3z:=@XS.{0};have z4z:=Ln.mk (ls:=[]) (iM);refine ft ?_ ?_ ?_ ?_ ?_ ?_ ?_ ?_<;>first|(with_reducible exact True.intro)|intros
    all_goals(first|omega|(simp only[ax,aX,Xo,Xm];exact dg))
 ·have h1:(bT v !=0)=true:=by simpa using hc
  have hr:R=(Vpc.zero,bT v):=by rw[hR.out];unfold eh;rw[aj hc]
  rw[hr];replace hr:=Xj hr;clear hR;refine pj func154 ntmps154 results154 ?_;refine ap ?_<;>intros;exact dg
theorem Rw (v:Vpc)(id:Int)(p:Pfx)(hl:v.subs.length<=9223372036854775807)(hf:∀s∈v.subs,s.faces.length<=9223372036854775807):ai prog 150 [.agg (ax v),.v (.int .i64 id),.agg (aS p)] (.tup [.agg (ax (pD v id p).1),.v (.int .i64 (pD v id p).2)]):=by
 obtain⟨R,hR⟩:∃R,R=pD v id p:=⟨_,rfl⟩;rw[<-hR];replace hR:=Xj hR;have bp:=io v hl hf;clear hl hf;by_cases hc:bT v=0
 ·have hk:=aY hc;have Om:=hk.n4;have H6:=hk.n6;have iM:=zU v hk.n4 hk.n6 hk.n8;have hw:ai prog 55 [.v (.int .i64 id),.v (.int .i64 1),.v (.int .i64 65536)] (.v (.bool (cB id))):=gG _ _ _;have Sg:=Cn v p aa;have aQ:R=if mE v id p≠0 then (Vpc.zero,mE v id p)else ({v with subs:=dv (·.id) ⟨id,p,[]⟩ v.subs},0):=by rw[hR.out];unfold pD;rw[af (by simpa using hc)]
  unfold mE at aQ;replace aQ:=Xj aQ;rw[hc]at bp;clear hR hc hk;cases b1:cB id with
  |false=>
   have hr:R=(Vpc.zero,3):=by rw[aQ.out];simp[b1]
   rw[b1]at hw;rw[hr];replace hr:=Xj hr;refine pj func150 ntmps150 results150 ?_;refine ap ?_<;>intros;all_goals exact dg
  |true=>
  rw[b1]at hw;cases b2:fJ v p with
  |false=>
   have hr:R=(Vpc.zero,3):=by rw[aQ.out];simp[b2]
   rw[b2]at Sg;rw[hr];replace hr:=Xj hr;refine pj func150 ntmps150 results150 ?_;refine ap ?_<;>intros;all_goals exact dg
  |true=>
  rw[b2]at Sg;have go:R=if (v.subs.any fun s=>(s.id==id)||s.at_.meets p)=true then (Vpc.zero,6)else if v.subs.length=6 then (Vpc.zero,2)else ({v with subs:=dv (·.id) ⟨id,p,[]⟩ v.subs},0):=by
   rw[aQ.out,b1,b2];cases(v.subs.any fun s=>(s.id==id)||s.at_.meets p)
   ·by_cases h:v.subs.length=6<;>simp[h]
   ·simp
  replace go:=Xj go;clear aQ;refine pj func150 ntmps150 results150 ?_;have z1z:=Ln.mk (ls:=[]) (iM);refine ap ?_<;>intros;clear iM bp hw Sg;refine bQ ag am (fun m e h=>∃(k g:Nat) (out:List Sbn) (f:Bool),k<=v.subs.length/\xr (fun s:Sbn=>s.id) ⟨id,p,[]⟩ v.subs k out f/\(v.subs.take k).all (fun s=>!((s.id==id)||s.at_.meets p))=true/\m=v.subs.length - k/\
   e=[(12,.d (.v (.int .i64 k))),(11,.d (.v (.bool f))),(10,.own 7 v.subs.length),(9,.ptr 8 0),(7,.d (.v (.int .i64 0))),(6,.ptr 2 0),(5,.ptr 1 0),(3,.ptr 0 0),(1,.d (.v (.int .i64 id)))]/\h=[.box 88 ((ax v).map .d),.box 23 ((aS p).map .d),.box 88 [.d (.v (.int .i64 0)),.d (.v (.slice none 0 0)),.d (.v (.slice none 0 0))],.gone,.gone,.row 100 3 1 (ab (v.ranges.map bE)),.gone,.row 107 4 v.subs.length (ab (v.subs.map aX)),.box 88 [.d (.v (.int .i64 v.id)),.own 5 1,.own 9 g],.row 107 4 g (ab (out.map aX))]) _ _ _ ⟨0,0,[],false,XD _,Jq,rfl,rfl,rfl,rfl⟩ ?_ ?_
  ·refine(ay ah 8 88 [.d (.v (.int .i64 v.id)),.own 5 1,.d (.v (.slice none 0 0))] 2 107 4 rfl rfl rfl).trans ?_;exact wf
  ·rintro m e h ⟨k,g,out,f,hk,fS,bo,hm,rfl,rfl⟩ C hC;replace hm:=Xj hm;replace bo:=Xj bo;have pM:=fS.1;replace fS:=Xj fS;have Ax:out.length<=7:=aa;have j7:(out.length+1)*48<=140737488355328:=by clear pM hk Om H6;omega
   have iO:(out.length+1+1)*48<=140737488355328:=by clear pM hk Om H6 j7;omega
   by_cases hlt:k < v.subs.length
   ·have eo:(k:Int) < (v.subs.length:Int):=aa;have db:=wi k aa;obtain⟨y,hy⟩:∃y,v.subs[k]? =some y:=⟨_,Xk hlt⟩;have JZ:=Xl hy;have pL:=su y.at_ p;rw[fI]at pL;cases b5:(y.id==id)with
    |true=>
     have hr:R=(Vpc.zero,6):=by rw[go.out,aj (XU.2 ⟨y,JZ,by rw[b5];rfl⟩)]
     rw[hr];replace hr:=Xj hr;refine ap ?_<;>intros;all_goals exact dg
    |false=>
    cases b3:y.at_.meets p with
    |true=>
     have hr:R=(Vpc.zero,6):=by rw[go.out,aj (XU.2 ⟨y,JZ,by rw[b3];simp⟩)]
     rw[b3]at pL;rw[hr];replace hr:=Xj hr;refine ap ?_<;>intros;all_goals exact dg
    |false=>
     rw[b3]at pL;have bH:y.id≠id:=by simpa using b5
     have mN:=eC (p:=fun s:Sbn=>!((s.id==id)||s.at_.meets p)) hy bo.out (by rw[b3,b5];rfl);replace mN:=Xj mN;replace bH:=Xj bH;replace JZ:=Xj JZ;cases f with
     |true=>
      have HZ:=Xj (Jr fS.out hy);refine ap ?_<;>intros;refine hC _ _ _ _ _ ?_ ⟨k+1,g+1,out++[y],true,hlt,HZ.out,mN.out,rfl,rfl,rfl⟩ (wf (hh:=(by simp only[ax,aX,Xo,Xm,Xr,<-aI];rfl)));have:=hm.out;omega
     |false=>
      cases b4:decide (y.id>id)with
      |true=>
       have HZ:=Xj (Js fS.out hy (of_decide_eq_true b4));refine ap ?_<;>intros;refine hC _ _ _ _ _ ?_ ⟨k+1,g+1+1,out++[⟨id,p,[]⟩]++[y],true,hlt,HZ.out,mN.out,rfl,rfl,rfl⟩ ((wE 9 rfl ah (rows':=ab ((out++[(⟨id,p,[]⟩:Sbn)]++[y]).map aX)) (by(try rw[aI]);simp only[Xo,Xm,Xr,XV,X9,Yb];exact tN dg) (mc (fun _=>rfl) _)).trans (wf));have:=hm.out;omega
      |false=>
       have HZ:=Xj (Jt fS.out hy (by have:=bH.out;have:=of_decide_eq_false b4;show y.id < id;omega));refine ap ?_<;>intros;refine hC _ _ _ _ _ ?_ ⟨k+1,g+1,out++[y],false,hlt,HZ.out,mN.out,rfl,rfl,rfl⟩ (wf (hh:=(by simp only[ax,aX,Xo,Xm,Xr,<-aI];rfl)));have:=hm.out;omega
   ·obtain rfl:k=v.subs.length:=aa;have cg:(v.subs.any fun s=>(s.id==id)||s.at_.meets p)=false:=by
     have bo:=bo.out;rw[Xq]at bo;rw[Yh];intro x hx;have:=XA.1 bo x hx;simpa using this
    have ld:R=if v.subs.length=6 then (Vpc.zero,2)else ({v with subs:=dv (·.id) ⟨id,p,[]⟩ v.subs},0):=by rw[go.out,af (by simp[cg])]
    clear go cg hC;cases f with
    |true=>
     have he:=D9 fS.out;have rW:out.length=v.subs.length+1:=by rw[he,fL]
     rw[<-he]at ld;replace he:=Xj he;by_cases h4:v.subs.length=6
     ·rw[aj h4]at ld;have hd:decide ((out.length:Int)>6)=true:=aK;rw[ld];replace ld:=Xj ld;replace rW:=Xj rW;replace h4:=Xj h4;refine ap ?_<;>intros;all_goals exact dg
     ·rw[af h4]at ld;have hd:decide ((out.length:Int)>6)=false:=aK;rw[ld];replace ld:=Xj ld;replace rW:=Xj rW;exact bc;all_goals exact dg
    |false=>
     have he:=Ea fS.out;have rW:out.length+1=v.subs.length+1:=by have h:=congrArg O' he;rw[fL]at h;simpa using h
     rw[<-he]at ld;replace he:=Xj he;by_cases h4:v.subs.length=6
     ·rw[aj h4]at ld;have hd:decide (((out.length+1:Nat):Int)>6)=true:=aK;rw[ld];replace ld:=Xj ld;replace rW:=Xj rW;replace h4:=Xj h4;refine ap ?_<;>intros;all_goals exact dg
     ·rw[af h4]at ld;have hd:decide (((out.length+1:Nat):Int)>6)=false:=aK;rw[ld];replace ld:=Xj ld;replace rW:=Xj rW;refine ap ?_<;>intros;all_goals
       simp only[ax,Xo,Xm,Xr];exact aP.tup ⟨aP.agg ⟨aP.refl _,aP.refl _,aP.sl (K6 dg) (by intro r hr d hd;obtain⟨x,-,rfl⟩:=XN.1 (by have h:r∈(out++[(⟨id,p,[]⟩:Sbn)]).map aX:=(by rw[Xo];exact hr);exact h);exact XA.1 (show (aX x).all D.one=true from rfl) d hd),trivial⟩ rfl,aP.refl _,trivial⟩
 ·have h1:(bT v !=0)=true:=by simpa using hc
  have hr:R=(Vpc.zero,bT v):=by rw[hR.out];unfold pD;rw[aj hc]
  rw[hr];replace hr:=Xj hr;clear hR;refine pj func150 ntmps150 results150 ?_;refine ap ?_<;>intros;exact dg
theorem NW (v:Vpc)(sub id:Int)(hl:v.subs.length<=9223372036854775807)(hf:∀s∈v.subs,s.faces.length<=9223372036854775807):ai prog 153 [.agg (ax v),.v (.int .i64 sub),.v (.int .i64 id)] (.tup [.agg (ax (gQ v sub id).1),.v (.int .i64 (gQ v sub id).2.1),.v (.int .i64 (gQ v sub id).2.2)]):=by
 obtain⟨R,hR⟩:∃R,R=gQ v sub id:=⟨_,rfl⟩;rw[<-hR];replace hR:=Xj hR;have bp:=io v hl hf;clear hl hf;by_cases hc:bT v=0
 ·have hk:=aY hc;have Om:=hk.n4;have H6:=hk.n6;have dK:=xQ v sub aa;unfold cv at dK
  have aQ:=hR.out;unfold gQ at aQ;rw[af (by simpa using hc)]at aQ;rw[hc]at bp;clear hR hc;have Bt:decide ((-1:Int) < 0)=true:=rfl;cases hf:v.subs.findIdx? (fun s=>s.id==sub)with
  |none=>
   rw[hf]at dK aQ;simp only at dK aQ;rw[aQ];replace aQ:=Xj aQ;clear hk hf;refine pj func153 ntmps153 results153 ?_;refine ap ?_<;>intros;all_goals exact dg
  |some i=>
   obtain⟨pre,s,post,hv,jC,-,hs⟩:=gn hf;have lR:=Xl hs;have jF:=hk.n8 s lR;obtain⟨s1,s2,s3,s4⟩:=rd hk lR;have hle:=Hj s jF.1 jF.2 s1;have lA:=Ag s id aa;unfold cv at lA;have mZ:decide ((i:Int) < 0)=false:=ah;have rV:v.subs.length=pre.length+1+post.length:=by rw[hv];simp;omega
   rw[hf]at dK aQ;simp only[hs]at dK aQ;clear hf;cases hg:s.faces.findIdx? (fun f=>f.id==id)with
   |none=>
    rw[hg]at lA aQ;simp only at lA aQ;rw[aQ];replace aQ:=Xj aQ;clear hk hg hv jC rV hle;refine pj func153 ntmps153 results153 ?_;refine ap ?_<;>intros;all_goals exact dg
   |some k=>
    obtain⟨preF,f,postF,BB,EK,-,wg⟩:=gn hg;have mY:=Xl wg;have iM:=W6 v pre post s preF postF f hv BB hk.n4 hk.n6 hk.n8;have gX:=jF.2 f mY;have a0D:s.faces.length=preF.length+1+postF.length:=by rw[BB];simp;omega
    have hk0:decide ((k:Int) < 0)=false:=ah;rw[hg]at lA aQ;simp only[wg]at lA aQ;by_cases h4:f.addrs.length=4
    ·rw[aj h4]at aQ;have hd:decide ((f.addrs.length:Int)>=4)=true:=aK;rw[aQ];replace aQ:=Xj aQ;replace h4:=Xj h4;clear hk hg hv jC rV iM BB EK a0D;refine pj func153 ntmps153 results153 ?_;refine ap ?_<;>intros;all_goals exact dg
    ·rw[af h4]at aQ;have hd:decide ((f.addrs.length:Int)>=4)=false:=aK;cases hl:eU s with
     |none=>
      rw[hl]at aQ hle;simp only[Option.getD_none]at aQ hle;rw[aQ];replace aQ:=Xj aQ;clear hk hg hv jC rV iM BB EK a0D hl;refine pj func153 ntmps153 results153 ?_;refine ap ?_<;>intros;all_goals exact dg
     |some a=>
      rw[hl]at aQ hle;simp only[Yp]at aQ hle;have rW:=sL (show gm _ _ _ _=some a from hl);have hae:0<=a:=by
       have h1:=D2 rW.2;obtain⟨-,-,r3,-,-⟩:=s.at_.bd h1.1;omega
      have ha0:decide (a < 0)=false:=by simpa using hae
      have Sf:a∉f.addrs:=fun h=>rW.1 (ZY.2 ⟨f,mY,h⟩);have xE:f.addrs.Pairwise fun x y=>x < y:=a5F
      have go:R=({v with subs:=pre++{s with faces:=preF++{f with addrs:=dv (fun x=>x) a f.addrs}::postF}::post},a,0):=by
       rw[aQ];rw[hv,<-jC,Yu _ _ (Xz _),YF,XQ];rw[BB,<-EK,Yu _ _ (Xz _),YF,XQ]
      have j7:(f.addrs.length+1)*8<=140737488355328:=aa;have hwl:IntKind.i64.wrap (((f.addrs.length+1:Nat):Int) - 1)=(f.addrs.length:Int):=by rw[IntKind.wrap_i64];omega
      replace go:=Xj go;replace Sf:=Xj Sf;replace xE:=Xj xE;replace hv:=Xj hv;replace BB:=Xj BB;clear aQ rW hl hk hg s2 s3 s4;subst jC;subst EK;refine pj func153 ntmps153 results153 ?_;have z1z:=@cy.eq_1;have z2z:=@eB.eq_1;have z3z:=Ln.mk (ls:=[]) (iM);refine ap ?_<;>intros;clear bp dK lA hle iM;refine bQ ag am (fun m e h=>∃(q:Nat) (out:List Int),Eb (fun x:Int=>x) a f.addrs q out/\out.length=f.addrs.length+1/\m=q/\e=[(15,.d (.v (.int .i64 q))),(14,.own 10 2),(13,.ptr 11 0),(12,.d (.v (.int .i64 a))),(11,.d (.v (.int .i64 preF.length))),(10,.d (.v (.int .i64 pre.length))),(6,.ptr 1 0)]/\h=[.box 88 ((ax v).map .d),.box 88 [.d (.v (.int .i64 0)),.d (.v (.slice none 0 0)),.d (.v (.slice none 0 0))],.gone,.gone,.row 100 3 1 (ab (v.ranges.map bE)),.gone,.row 107 4 (pre.length+1+post.length) (fA aX pre (cy s (.own 8 (preF.length+1+postF.length))) post),.gone,.row 110 2 (preF.length+1+postF.length) (fA cl preF (eB f (.own 10 1)) postF),.gone,.row 3 1 2 (ab (out.map cF)),.box 88 [.d (.v (.int .i64 v.id)),.own 4 1,.own 6 (pre.length+1+post.length)]]) _ _ _ ⟨f.addrs.length,f.addrs++[a],Rj,by simp,rfl,rfl,rfl⟩ (wf (hh:=(by rw[Xo];rfl)) (hb:=cK) (hbh:=cK)) ?_;rintro m e h ⟨q,out,xb,pM,hm,rfl,rfl⟩ C hC;have vZ:=xb.1;have hx:=Rk xb;replace xb:=Xj xb;replace hm:=Xj hm;by_cases h0:0 < q
      ·have hq0:decide ((q:Int)>0)=true:=aK;obtain⟨y,hy⟩:∃y,f.addrs[q - 1]? =some y:=⟨_,Xk aa⟩;have SZ:=Rl xb.out h0 hy;have C9:IntKind.i64.wrap ((q:Int) - 1)=((q - 1:Nat):Int):=by rw[IntKind.wrap_i64];omega
       have qD:q < out.length:=aa;have hq3:q - 1 < out.length:=aa;replace pM:=Xj pM;replace h0:=Xj h0;replace hy:=Xj hy;cases b5:decide (y>a)with
       |true=>
        have iO:=Rm xb.out h0.out hy.out (of_decide_eq_true b5);replace iO:=Xj iO;have Bq:∀X:List PV,((ab (out.map cF)).set (q - 1) X)[q]? =some [.d (.v (.int .i64 a))]:=fun X=>by
         rw[Q' (by have:=h0.out;omega),iC,Xy,hx];rfl
        have z1z:=@cy.eq_1;have z2z:=@eB.eq_1;refine ap ?_<;>intros;refine hC _ _ _ _ _ ?_ ⟨q - 1,(out.set (q - 1) a).set q y,iO.out,by rw[YX,YX];exact pM.out,rfl,rfl,rfl⟩ (wf (hh:=(by simp only[Z7,ab];rfl)) (hb:=cK) (hbh:=cK));have:=hm.out;have:=h0.out;omega
       |false=>
        have he:=CU xb.out xE.out (fun z _ hz=>by
         rw[hy.out]at hz;rw[<-XW.inj hz];have h1:y≠a:=fun e=>Sf.out (e ▸ Xl hy.out);have h2:=of_decide_eq_false b5;show y < a;omega)
        rw[<-he]at go;have ld:=go.out;rw[ld];replace ld:=Xj ld;replace he:=Xj he;have z1z:=@cy.eq_1;have z2z:=@eB.eq_1;refine ap ?_<;>intros;all_goals(first|omega|(simp only[ax,aX,cl,Xo,Xm];exact dg))
      ·have hq0:decide ((q:Int)>0)=false:=aK;have he:=CU xb.out xE.out (fun z h _=>absurd h h0);rw[<-he]at go;have ld:=go.out;rw[ld];replace ld:=Xj ld;replace he:=Xj he;replace h0:=Xj h0;have qD:q < out.length:=aa;replace pM:=Xj pM;have z1z:=@cy.eq_1;have z2z:=@eB.eq_1;refine ap ?_<;>intros;all_goals(first|omega|(simp only[ax,aX,cl,Xo,Xm];exact dg))
 ·have h1:(bT v !=0)=true:=by simpa using hc
  have hr:R=(Vpc.zero,0,bT v):=by rw[hR.out];unfold gQ;rw[aj hc]
  rw[hr];replace hr:=Xj hr;clear hR;refine pj func153 ntmps153 results153 ?_;refine ap ?_<;>intros;exact dg
def ui (b:Bok)(vs:List Vpc)(c:Cmd):Bok × Ans:=
 if c.op=1 then ((gu b c.a c.at_ c.rule).1,.er (gu b c.a c.at_ c.rule).2)
 else if c.op=2 then ((gx b c.a c.b c.c c.rule).1,⟨(gx b c.a c.b c.c c.rule).2.2,(gx b c.a c.b c.c c.rule).2.1,0⟩)
 else if c.op=3 then ((fO b c.a).1,.er (fO b c.a).2)
 else if c.op=4 then ((jU b c.a).1,.er (jU b c.a).2)
 else if c.op=5 then if ip vs c.c then (⟨0,[]⟩,.er 6)else ((cS b c.a c.b c.c).1,⟨(cS b c.a c.b c.c).2.2,(cS b c.a c.b c.c).2.1,0⟩)
 else if (vs.any fun v=>v.ranges.any fun x=>decide (x=⟨c.at_,c.a⟩))=true then (⟨0,[]⟩,.er 9)else ((fN b c.a c.at_).1,.er (fN b c.a c.at_).2)
theorem Rx (s:Ste)(c:Cmd)(hz:∀p∈s.book.pools,p.leases.length<=3518437208882)(h6:s.net.vpcs.length<=6)(h4:∀v∈s.net.vpcs,v.ranges.length<=1000000000):
 ai prog 77 [.agg (eR s),.agg (jE c)] (.tup [.agg (bq (ui s.book s.net.vpcs c).1),.agg (p7 (ui s.book s.net.vpcs c).2)]):=by
 have h6x:=h6;unfold ui;by_cases h1:c.op=1
 ·rw[aj h1];have hp:=QS s.book c.a c.at_ c.rule hz;generalize gu s.book c.a c.at_ c.rule=R at*;replace hz:=Xj hz;replace h4:=Xj h4;refine pj func77 ntmps77 results77 ?_;first|exact bc|(refine ap ?_;exact dz)
 rw[af h1];by_cases h2:c.op=2
 ·rw[aj h2];have hp:=QV s.book c.a c.b c.c c.rule hz;generalize gx s.book c.a c.b c.c c.rule=R at*;clear h1;replace hz:=Xj hz;replace h4:=Xj h4;refine pj func77 ntmps77 results77 ?_;first|exact bc|(refine ap ?_;exact dz)
 rw[af h2];by_cases h3:c.op=3
 ·rw[aj h3];have hp:=Nx s.book c.a hz;generalize fO s.book c.a=R at*;clear h1 h2;replace hz:=Xj hz;replace h4:=Xj h4;refine pj func77 ntmps77 results77 ?_;first|exact bc|(refine ap ?_;exact dz)
 rw[af h3];by_cases h4':c.op=4
 ·rw[aj h4'];have hp:=Q0 s.book c.a hz;generalize jU s.book c.a=R at*;clear h1 h2 h3;replace hz:=Xj hz;replace h4:=Xj h4;refine pj func77 ntmps77 results77 ?_;first|exact bc|(refine ap ?_;exact dz)
 rw[af h4'];by_cases h5:c.op=5
 ·rw[aj h5];have Vw:=iF s.net c.c aa;have hp:=GN s.book c.a c.b c.c hz;have Vt:=gq (fun v:Vpc=>v.id==c.c) s.net.vpcs;generalize cS s.book c.a c.b c.c=R at*;unfold ip;clear h1 h2 h3 h4';cases hb:s.net.vpcs.any fun v=>v.id==c.c
  ·rw[hb]at Vt;replace hb:=Xj hb;replace hz:=Xj hz;replace h4:=Xj h4;refine pj func77 ntmps77 results77 ?_;first|exact bc|(refine ap ?_;exact dz)
  ·rw[hb]at Vt;replace hb:=Xj hb;clear hp;replace hz:=Xj hz;replace h4:=Xj h4;refine pj func77 ntmps77 results77 ?_;first|exact bc|(refine ap ?_;exact dz)
 rw[af h5];have e1:(c.op==1)=false:=by simpa using h1
 have e2:(c.op==2)=false:=by simpa using h2
 have e3:(c.op==3)=false:=by simpa using h3
 have e4:(c.op==4)=false:=by simpa using h4'
 have e5:(c.op==5)=false:=by simpa using h5
 have Sg:=NU s.net ⟨c.at_,c.a⟩ aa h4;have hp:=GP s.book c.a c.at_ hz;generalize fN s.book c.a c.at_=R at*;clear h1 h2 h3 h4' h5;cases hb:s.net.vpcs.any fun v=>v.ranges.any fun x=>decide (x=⟨c.at_,c.a⟩)
 ·rw[hb]at Sg;replace hb:=Xj hb;replace hz:=Xj hz;replace h4:=Xj h4;refine pj func77 ntmps77 results77 ?_;first|exact bc|(refine ap ?_;exact dz)
 ·rw[hb]at Sg;replace hb:=Xj hb;clear hp;replace hz:=Xj hz;replace h4:=Xj h4;refine pj func77 ntmps77 results77 ?_;first|exact bc|(refine ap ?_;exact dz)
def JD (v:Vpc)(c:Cmd):Vpc × Ans:=
 if c.op=10 then ((pD v c.b c.at_).1,.er (pD v c.b c.at_).2)
 else if c.op=11 then ((fR v c.b).1,.er (fR v c.b).2)
 else if c.op=12 then ((iu v c.b c.c).1,⟨(iu v c.b c.c).2.2,⟨0,0⟩,(iu v c.b c.c).2.1⟩)
 else if c.op=13 then ((gQ v c.b c.c).1,⟨(gQ v c.b c.c).2.2,⟨0,0⟩,(gQ v c.b c.c).2.1⟩)
 else ((eh v c.b c.c).1,.er (eh v c.b c.c).2)
theorem UP (v:Vpc)(c:Cmd)(h6:v.subs.length<=9223372036854775807)(h8:∀s∈v.subs,s.faces.length<=9223372036854775807):
 ai prog 86 [.agg (ax v),.agg (jE c)] (.tup [.agg (ax (JD v c).1),.agg (p7 (JD v c).2)]):=by
 unfold JD;by_cases h1:c.op=10
 ·rw[aj h1];have hp:=Rw v c.b c.at_ h6 h8;generalize pD v c.b c.at_=R at*;replace h8:=Xj h8;refine pj func86 ntmps86 results86 ?_;first|exact bc|(refine ap ?_;exact dz)
 rw[af h1];by_cases h2:c.op=11
 ·rw[aj h2];have hp:=JC v c.b h6 h8;generalize fR v c.b=R at*;clear h1;replace h8:=Xj h8;refine pj func86 ntmps86 results86 ?_;first|exact bc|(refine ap ?_;exact dz)
 rw[af h2];by_cases h3:c.op=12
 ·rw[aj h3];have hp:=NV v c.b c.c h6 h8;generalize iu v c.b c.c=R at*;clear h1 h2;replace h8:=Xj h8;refine pj func86 ntmps86 results86 ?_;first|exact bc|(refine ap ?_;exact dz)
 rw[af h3];by_cases h4:c.op=13
 ·rw[aj h4];have hp:=NW v c.b c.c h6 h8;generalize gQ v c.b c.c=R at*;clear h1 h2 h3;replace h8:=Xj h8;refine pj func86 ntmps86 results86 ?_;first|exact bc|(refine ap ?_;exact dz)
 rw[af h4];have e1:(c.op==10)=false:=by simpa using h1
 have e2:(c.op==11)=false:=by simpa using h2
 have e3:(c.op==12)=false:=by simpa using h3
 have e4:(c.op==13)=false:=by simpa using h4
 have hp:=Hn v c.b c.c h6 h8;generalize eh v c.b c.c=R at*;clear h1 h2 h3 h4;replace h8:=Xj h8;refine pj func86 ntmps86 results86 ?_;first|exact bc|(refine ap ?_;exact dz)
theorem NX {l:List Rng}{p:Pfx}(h:l.findIdx? (fun r=>decide (r.at_=p))=none):l.filter (fun r=>decide (r.at_=p))=[]:=by
 rw[Zz];intro x hx;have:=Yn.1 h x hx;simp[this]
theorem NY {l:List Rng}{p:Pfx}{i:Nat}{z:Rng}(hs:l.Pairwise fun a b=>a.at_.at_ < b.at_.at_)(h:l.findIdx? (fun r=>decide (r.at_=p))=some i)(hz:l[i]? =some z):l.filter (fun r=>decide (r.at_=p))=[z]/\l.filter (fun r=>!decide (r.at_=p))=l.eraseIdx i:=by
 obtain⟨pre,x,post,hl,jC,hp,hx⟩:=gn h;rw[hz]at hx;obtain rfl:=XW.inj hx;have Lv:z.at_=p:=of_decide_eq_true hp;subst hl;subst jC;rw[YV,YC]at hs;have h1:∀a∈pre,¬a.at_=p:=fun a ha e=>by
  have:=hs.2.2 a ha z ah;rw[e,Lv]at this;omega
 have h2:∀a∈post,¬a.at_=p:=fun a ha e=>by
  have:=hs.2.1.1 a ha;rw[e,Lv]at this;omega
 have e1:pre.filter (fun r=>decide (r.at_=p))=[]:=Zz.2 fun a ha=>by simp[h1 a ha]
 have e2:post.filter (fun r=>decide (r.at_=p))=[]:=Zz.2 fun a ha=>by simp[h2 a ha]
 have e3:pre.filter (fun r=>!decide (r.at_=p))=pre:=Y5.2 fun a ha=>by simp[h1 a ha]
 have e4:post.filter (fun r=>!decide (r.at_=p))=post:=Y5.2 fun a ha=>by simp[h2 a ha]
 constructor
 ·rw[YY,ZF,aj hp,e1,e2];rfl
 ·rw[YY,ZF,af (by simp[hp]),e3,e4,List.eraseIdx_append_of_length_le (Xz _)];simp
theorem NZ (v:Vpc)(p:Pfx)(hl:v.subs.length<=9223372036854775807)(hf:∀s∈v.subs,s.faces.length<=9223372036854775807):ai prog 84 [.agg (ax v),.agg (aS p)] (.tup [.agg (ax (d6 v p).1),.agg (bE (d6 v p).2.1),.v (.int .i64 (d6 v p).2.2)]):=by
 obtain⟨R,hR⟩:∃R,R=d6 v p:=⟨_,rfl⟩;rw[<-hR];replace hR:=Xj hR;have bp:=io v hl hf;clear hl hf;by_cases hc:bT v=0
 ·have hk:=aY hc;have Om:=hk.n4;have H6:=hk.n6;have iM:=zU v hk.n4 hk.n6 hk.n8;have aQ:=hR.out;unfold d6 at aQ;rw[af (by simpa using hc)]at aQ;replace aQ:=Xj aQ;rw[hc]at bp;have oG:=Xj hk.rr;have hkr:=Xj hk.ranges;clear hR hc hk;refine pj func84 ntmps84 results84 ?_;have z1z:=Ln.mk (ls:=[]) (iM);refine ap ?_<;>intros;clear iM bp;refine bQ ag am (fun m e h=>∃(k g:Nat) (out:List Rng) (x:Rng),k<=v.ranges.length/\out.length<=k/\out=(v.ranges.take k).filter (fun r=>!decide (r.at_=p))/\x=((v.ranges.take k).filter (fun r=>decide (r.at_=p))).getLastD Rng.zero/\m=v.ranges.length - k/\
   e=[(10,.d (.v (.int .i64 k))),(9,.ptr 10 0),(8,.ptr 9 0),(6,.d (.v (.int .i64 0))),(5,.ptr 3 0),(4,.ptr 2 0),(3,.ptr 1 0),(2,.ptr 0 0)]/\h=[.box 88 ((ax v).map .d),.box 23 ((aS p).map .d),.box 88 [.d (.v (.int .i64 0)),.d (.v (.slice none 0 0)),.d (.v (.slice none 0 0))],.box 100 ((bE Rng.zero).map .d),.gone,.gone,.row 100 3 1 (ab (v.ranges.map bE)),.gone,.row 107 4 v.subs.length (ab (v.subs.map aX)),.box 88 [.d (.v (.int .i64 v.id)),.own 11 g,.own 8 v.subs.length],.box 100 ((bE x).map .d),.row 100 3 g (ab (out.map bE))]) _ _ _ ⟨0,0,[],Rng.zero,XD _,XD _,rfl,rfl,rfl,rfl,rfl⟩ ?_ ?_
  ·refine(ay ah 9 88 [.d (.v (.int .i64 v.id)),.d (.v (.slice none 0 0)),.own 8 v.subs.length] 1 100 3 rfl rfl rfl).trans ?_;exact wf
  ·rintro m e h ⟨k,g,out,x,hk,pM,AM,hx,hm,rfl,rfl⟩ C hC;replace hm:=Xj hm;replace AM:=Xj AM;replace hx:=Xj hx;have Ax:out.length<=4:=aa;have j7:(out.length+1)*24<=140737488355328:=by clear pM hk Om;omega
   by_cases hlt:k < v.ranges.length
   ·have eo:(k:Int) < (v.ranges.length:Int):=aa;have db:=wi k aa;obtain⟨y,hy⟩:∃y,v.ranges[k]? =some y:=⟨_,Xk hlt⟩;have he:=zC y.at_ p;have f1:=vJ (f:=fun r:Rng=>!decide (r.at_=p)) hy;have f2:=vJ (f:=fun r:Rng=>decide (r.at_=p)) hy;cases b3:decide (y.at_=p)with
    |true=>
     rw[b3]at he;simp only[b3,H',YB,if_false,if_true]at f1 f2;replace f1:=Xj f1;replace f2:=Xj f2;replace b3:=Xj b3;refine ap ?_<;>intros;refine hC _ _ _ _ _ ?_ ⟨k+1,g,out,y,hlt,by omega,by rw[AM.out,f1.out],by rw[f2.out];simp,rfl,rfl,rfl⟩ (wf (hh:=(by simp only[ax,bE,Xo,Xm,Xr,<-aI];rfl)));have:=hm.out;omega
    |false=>
     rw[b3]at he;simp only[b3,Bool.not_false,YB,if_false,if_true]at f1 f2;replace f1:=Xj f1;replace f2:=Xj f2;replace b3:=Xj b3;refine ap ?_<;>intros;refine hC _ _ _ _ _ ?_ ⟨k+1,g+1,out++[y],x,hlt,by simp;omega,by rw[AM.out,f1.out],by rw[f2.out,hx.out],rfl,rfl,rfl⟩ (wf (hh:=(by simp only[ax,bE,Xo,Xm,Xr,<-aI];rfl)));have:=hm.out;omega
   ·obtain rfl:k=v.ranges.length:=aa;have AM:=AM.out;have hx:=hx.out;rw[Xq]at AM hx;clear hC;have go:=aQ.out;cases hf:v.ranges.findIdx? (fun r=>decide (r.at_=p))with
    |none=>
     rw[hf]at go;simp only at go;rw[NX hf]at hx;have hp0:x.pool=0:=by rw[hx];rfl
     rw[go];replace go:=Xj go;replace hx:=Xj hx;replace AM:=Xj AM;clear hf;refine ap ?_<;>intros;all_goals exact dg
    |some i=>
     obtain⟨z,hz⟩:∃z,v.ranges[i]? =some z:=⟨_,Xk (XI.1 hf).1⟩;obtain⟨e1,e2⟩:=NY oG.out hf hz;rw[hf]at go;simp only[XC,hz,Yp,<-e2,<-AM]at go;rw[e1]at hx;obtain rfl:x=z:=hx;have hp0:(x.pool==0)=false:=by
      have:=hkr.out x (Xl hz);unfold eK cB at this;simp only[Xt,decide_eq_true_eq]at this;simp;omega
     replace go:=Xj go;clear AM e1 e2 hz hf;refine ap ?_<;>intros;refine bf ag am v.subs (fun j=>(v.subs.take j).all (fun s=>!(dZ s.at_ p))=true) (fun j=>[(11,.d (.v (.int .i64 j))),(9,.ptr 10 0),(8,.ptr 9 0),(6,.d (.v (.int .i64 0))),(5,.ptr 3 0),(4,.ptr 2 0),(3,.ptr 1 0),(2,.ptr 0 0)]) (fun _=>[.box 88 ((ax v).map .d),.box 23 ((aS p).map .d),.box 88 [.d (.v (.int .i64 0)),.d (.v (.slice none 0 0)),.d (.v (.slice none 0 0))],.box 100 ((bE Rng.zero).map .d),.gone,.gone,.row 100 3 1 (ab (v.ranges.map bE)),.gone,.row 107 4 v.subs.length (ab (v.subs.map aX)),.box 88 [.d (.v (.int .i64 v.id)),.own 11 g,.own 8 v.subs.length],.box 100 ((bE x).map .d),.row 100 3 g (ab (out.map bE))]) rfl (wf) ?_ ?_
     ·intro j s hs hj hJ C2 j6;have lz:(j:Int) < (v.subs.length:Int):=aa;have nI:=wi j aa;have HQ:=yY s.at_ p;rw[xK]at HQ;cases b4:dZ s.at_ p with
      |true=>
       have hr:R=(Vpc.zero,Rng.zero,9):=by rw[go.out,aj (XU.2 ⟨s,Xl hs,b4⟩)]
       rw[hr];replace hr:=Xj hr;rw[b4]at HQ;replace hJ:=Xj hJ;refine ap ?_<;>intros;all_goals exact dg
      |false=>
       have EP:=Xj (eC (p:=fun s:Sbn=>!(dZ s.at_ p)) hs hJ (by rw[b4];rfl));rw[b4]at HQ;replace hJ:=Xj hJ;refine ap ?_<;>intros;exact j6 _ _ EP.out (wf)
     ·intro hJ C2;have cg:(v.subs.any fun s=>dZ s.at_ p)=false:=by
       rw[Xq]at hJ;rw[Yh];intro x hx;have:=XA.1 hJ x hx;simpa using this
      have hr:R=({v with ranges:=out},x,0):=by rw[go.out,af (by simp[cg])]
      rw[hr];replace hr:=Xj hr;replace hJ:=Xj hJ;replace cg:=Xj cg;exact bc;all_goals exact dg
 ·have h1:(bT v !=0)=true:=by simpa using hc
  have hr:R=(Vpc.zero,Rng.zero,bT v):=by rw[hR.out];unfold d6;rw[aj hc]
  rw[hr];replace hr:=Xj hr;clear hR;refine pj func84 ntmps84 results84 ?_;refine ap ?_<;>intros;exact dg
def N0 (s:Ste)(c:Cmd):Ste × Ans:=
 if 1<=c.op/\c.op<=6 then (⟨(ui s.book s.net.vpcs c).1,s.net⟩,(ui s.book s.net.vpcs c).2)
 else if c.op=7 then if Af s.book c.a=true then (s,.er 6)else (⟨s.book,(jx s.net c.a).1⟩,.er (jx s.net c.a).2)
 else if c.op=15 then (⟨s.book,(kf s.net c.a c.b).1⟩,.er (kf s.net c.a c.b).2)
 else if c.op=16 then (⟨s.book,(jv s.net c.a c.b).1⟩,.er (jv s.net c.a c.b).2)
 else if ¬(8<=c.op/\c.op<=14)then (s,.er 4)
 else if cv (fun v=>v.id==c.a) s.net.vpcs < 0 then (s,.er 5)
 else match s.net.vpcs[(cv (fun v=>v.id==c.a) s.net.vpcs).toNat]? with
  |none=>(s,.er 5)
  |some v=>
   if c.op=8 then
    if (cS s.book c.b c.c c.a).2.2=0 then (⟨(cS s.book c.b c.c c.a).1,(iJ s.net c.a ⟨(cS s.book c.b c.c c.a).2.1,c.b⟩).1⟩,⟨(iJ s.net c.a ⟨(cS s.book c.b c.c c.a).2.1,c.b⟩).2,(cS s.book c.b c.c c.a).2.1,0⟩)
    else (⟨(cS s.book c.b c.c c.a).1,s.net⟩,⟨(cS s.book c.b c.c c.a).2.2,(cS s.book c.b c.c c.a).2.1,0⟩)
   else if c.op=9 then
    if (d6 v c.at_).2.2=0 then (⟨(fN s.book (d6 v c.at_).2.1.pool (d6 v c.at_).2.1.at_).1,{s.net with vpcs:=s.net.vpcs.set (cv (fun v=>v.id==c.a) s.net.vpcs).toNat (d6 v c.at_).1}⟩,.er (fN s.book (d6 v c.at_).2.1.pool (d6 v c.at_).2.1.at_).2)
    else (⟨s.book,{s.net with vpcs:=s.net.vpcs.set (cv (fun v=>v.id==c.a) s.net.vpcs).toNat (d6 v c.at_).1}⟩,.er (d6 v c.at_).2.2)
   else (⟨s.book,{s.net with vpcs:=s.net.vpcs.set (cv (fun v=>v.id==c.a) s.net.vpcs).toNat (JD v c).1}⟩,(JD v c).2)
theorem W7 (s:Ste)(c:Cmd)(hb:BookOK s.book)(hn:NetOK s.net)(rE:Bk s.net):
 ai prog 46 [.agg (eR s),.agg (jE c)] (.tup [.agg (eR (N0 s c).1),.agg (p7 (N0 s c).2)]):=by
 have n8:=hb.n8;have eG:=hb.l32;have n6:=hn.n6;have hz:∀p∈s.book.pools,p.leases.length<=3518437208882:=fun p hp=>by have:=eG p hp;omega
 have rD:∀v∈s.net.vpcs,VpcOK v:=fun v hv=>aY (hn.vp v hv);have iM:=Ln.mk (ls:=[]) (jy s.book aa eG);have Vf:=Ln.mk (ls:=[]) (oB s.net n6 hn.n12 hn.vp);have Vw:=iF s.net c.a aa;have ci:=gG c.op 1 6;have cj:=gG c.op 8 14;clear hb hn;unfold N0;by_cases ho:1<=c.op/\c.op<=6
 ·rw[aj ho];have hp:=Rx s c hz n6 (fun v hv=>by have:=(rD v hv).n4;omega);have e1:(decide (1<=c.op)&&decide (c.op<=6))=true:=by simp[ho.1,ho.2]
  rw[e1]at ci;generalize ui s.book s.net.vpcs c=R at*;clear cj;replace ho:=Xj ho;replace hz:=Xj hz;replace eG:=Xj eG;replace rD:=Xj rD;refine pj func46 ntmps46 results46 ?_;first|exact bc|(refine ap ?_;exact dz)
 rw[af ho];have e1:(decide (1<=c.op)&&decide (c.op<=6))=false:=by rw[Z2];simp only[decide_eq_false_iff_not];omega
 rw[e1]at ci;replace ho:=Xj ho;by_cases h7:c.op=7
 ·rw[aj h7];have e7:(c.op==7)=true:=by simpa using h7
  replace h7:=Xj h7;have hp:=UO s.book c.a aa (fun p hp=>by have:=eG p hp;omega);have hm:=NH s.net c.a rE;generalize jx s.net c.a=R at*;clear cj;replace hz:=Xj hz;replace eG:=Xj eG;replace rD:=Xj rD;replace rE:=Xj rE;by_cases hw:Af s.book c.a=true
  ·rw[aj hw];rw[hw]at hp;refine pj func46 ntmps46 results46 ?_;first|exact bc|(refine ap ?_;exact dz)
  ·rw[af hw];rw[Bool.not_eq_true]at hw;rw[hw]at hp;refine pj func46 ntmps46 results46 ?_;first|exact bc|(refine ap ?_;exact dz)
 rw[af h7];have e7:(c.op==7)=false:=by simpa using h7
 by_cases J7:c.op=15
 ·rw[aj J7];have e15:(c.op==15)=true:=by simpa using J7
  replace J7:=Xj J7;have hm:=NL s.net c.a c.b rE;generalize kf s.net c.a c.b=R at*;clear cj;replace hz:=Xj hz;replace eG:=Xj eG;replace rD:=Xj rD;replace rE:=Xj rE;refine pj func46 ntmps46 results46 ?_;first|exact bc|(refine ap ?_;exact dz)
 rw[af J7];have e15:(c.op==15)=false:=by simpa using J7
 by_cases Dc:c.op=16
 ·rw[aj Dc];have e16:(c.op==16)=true:=by simpa using Dc
  replace Dc:=Xj Dc;have hm:=NK s.net c.a c.b rE;generalize jv s.net c.a c.b=R at*;clear cj;replace hz:=Xj hz;replace eG:=Xj eG;replace rD:=Xj rD;replace rE:=Xj rE;refine pj func46 ntmps46 results46 ?_;first|exact bc|(refine ap ?_;exact dz)
 rw[af Dc];have e16:(c.op==16)=false:=by simpa using Dc
 replace h7:=Xj h7;replace J7:=Xj J7;replace Dc:=Xj Dc;by_cases h8:8<=c.op/\c.op<=14
 ·rw[af (by simpa using h8)];have e8:(decide (8<=c.op)&&decide (c.op<=14))=true:=by simp[h8.1,h8.2]
  rw[e8]at cj;replace h8:=Xj h8;rcases vG (fun v:Vpc=>v.id==c.a) s.net.vpcs with hi|⟨k,v,hk,hv⟩
  ·rw[aj hi];have e9:decide (cv (fun v:Vpc=>v.id==c.a) s.net.vpcs < 0)=true:=by simpa using hi
   generalize cv (fun v:Vpc=>v.id==c.a) s.net.vpcs=i at*;replace hz:=Xj hz;replace eG:=Xj eG;replace rD:=Xj rD;replace rE:=Xj rE;replace hi:=Xj hi;refine pj func46 ntmps46 results46 ?_;first|exact bc|(refine ap ?_;exact dz)
  ·rw[hk]at Vw ⊢;rw[af aa,Int.toNat_natCast,hv];dsimp only;have hlt:=(Xn.1 hv).1;have eo:(k:Int) < (s.net.vpcs.length:Int):=aa;have e9:decide ((k:Int) < 0)=false:=ah;have uy:=Xl hv;have bJ:=rD v uy;have hs6:v.subs.length<=9223372036854775807:=by have:=bJ.n6;omega
   have hs8:∀s∈v.subs,s.faces.length<=9223372036854775807:=fun s hs=>by have:=(bJ.n8 s hs).1;omega
   have bV:=fun(x:Vpc)=>bU ax s.net.vpcs k x;replace hk:=Xj hk;replace uy:=Xj uy;replace bJ:=Xj bJ;clear rD;by_cases h8:c.op=8
   ·rw[aj h8];have e8:(c.op==8)=true:=by simpa using h8
    replace h8:=Xj h8;have hp:=GN s.book c.b c.c c.a hz;generalize cS s.book c.b c.c c.a=R at*;by_cases h0:R.2.2=0
    ·rw[aj h0];have hg:=NI s.net c.a ⟨R.2.1,c.b⟩ rE;generalize iJ s.net c.a ⟨R.2.1,c.b⟩=G at*;replace hz:=Xj hz;replace eG:=Xj eG;replace rE:=Xj rE;refine pj func46 ntmps46 results46 ?_;first|exact bc|(refine ap ?_;exact dz)
    ·rw[af h0];have e0:(R.2.2==0)=false:=by simpa using h0
     replace hz:=Xj hz;replace eG:=Xj eG;replace rE:=Xj rE;replace h0:=Xj h0;refine pj func46 ntmps46 results46 ?_;first|exact bc|(refine ap ?_;exact dz)
   rw[af h8];have e8:(c.op==8)=false:=by simpa using h8
   by_cases h9:c.op=9
   ·rw[aj h9];have e9:(c.op==9)=true:=by simpa using h9
    replace h9:=Xj h9;have hp:=NZ v c.at_ hs6 hs8;generalize d6 v c.at_=R at*;have bV:(ab (s.net.vpcs.map ax)).set k [.d (.v (.int .i64 R.1.id)),.d (.sl 3 (R.1.ranges.map bE)),.d (.sl 4 (R.1.subs.map aX))]=ab ((s.net.vpcs.set k R.1).map ax):=bV R.1;by_cases h0:R.2.2=0
    ·rw[aj h0];have hg:=GP s.book R.2.1.pool R.2.1.at_ hz;generalize fN s.book R.2.1.pool R.2.1.at_=G at*;replace hz:=Xj hz;replace eG:=Xj eG;replace rE:=Xj rE;refine pj func46 ntmps46 results46 ?_;first|exact bc|(refine ap ?_;exact dz)
    ·rw[af h0];have e0:(R.2.2==0)=false:=by simpa using h0
     replace h0:=Xj h0;replace hz:=Xj hz;replace eG:=Xj eG;replace rE:=Xj rE;refine pj func46 ntmps46 results46 ?_;first|exact bc|(refine ap ?_;exact dz)
   rw[af h9];have e9:(c.op==9)=false:=by simpa using h9
   replace h9:=Xj h9;have hp:=UP v c hs6 hs8;generalize JD v c=R at*;have bV:(ab (s.net.vpcs.map ax)).set k [.d (.v (.int .i64 R.1.id)),.d (.sl 3 (R.1.ranges.map bE)),.d (.sl 4 (R.1.subs.map aX))]=ab ((s.net.vpcs.set k R.1).map ax):=bV R.1;replace hz:=Xj hz;replace eG:=Xj eG;replace rE:=Xj rE;refine pj func46 ntmps46 results46 ?_;first|exact bc|(refine ap ?_;exact dz)
 ·rw[aj h8];have e8:(decide (8<=c.op)&&decide (c.op<=14))=false:=by rw[Z2];simp only[decide_eq_false_iff_not];omega
  rw[e8]at cj;replace h8:=Xj h8;replace hz:=Xj hz;replace eG:=Xj eG;replace rD:=Xj rD;replace rE:=Xj rE;refine pj func46 ntmps46 results46 ?_;first|exact bc|(refine ap ?_;exact dz)
theorem a5n {p:Prop}(h:p:=by
 rw[aj h2,aj h2];exact .refl _):p:=h
theorem UQ {b:Bok}(h:BookOK b)(id:Int):wN (xp b) id=Af b id:=by
 rw[Ef h,Yk];unfold wN Af;simp only[XU,Xt,beq_iff_eq];constructor
 ·rintro⟨⟨k,o⟩,hm,ho⟩;obtain⟨p,hp,l,hl,h1,-,h2⟩:=sP.1 hm;exact⟨p,hp,l,hl,h1,by rw[<-h2];exact ho⟩
 ·rintro⟨p,hp,l,hl,h1,h2⟩;exact⟨([l.at_.at_,l.at_.len,p.id],l.owner),sP.2 ⟨p,hp,l,hl,h1,rfl,rfl⟩,h2⟩
theorem Ry (vs:List Vpc)(r:Rng):KS vs r=vs.any fun v=>v.ranges.any fun x=>decide (x=r):=by
 unfold KS;have:(fun x:Rng=>decide (r=x))=fun x=>decide (x=r):=by funext x;exact decide_eq_decide.2 ⟨fun h=>h.symm,fun h=>h.symm⟩
 rw[this]
structure SameAct (a b:Ste × Ans):Prop where
 err:a.2.err=b.2.err
 eq:a.2.err=0->a=b
theorem SameAct.refl (a:Ste × Ans):SameAct a a:=⟨rfl,fun _=>rfl⟩
theorem N1 (b:Bok)(vs:List Vpc)(lk:List Lnk)(c:Cmd)(h:1<=c.op/\c.op<=6):SameAct (⟨(ui b vs c).1,⟨vs,lk⟩⟩,(ui b vs c).2) (⟨(oz b vs c).1,⟨vs,lk⟩⟩,(oz b vs c).2):=by
 unfold ui oz;by_cases h1:c.op=1
 ·rw[aj h1,aj h1];exact .refl _
 rw[af h1,af h1];by_cases h2:c.op=2
 ·exact a5n
 rw[af h2,af h2];by_cases h3:c.op=3
 ·rw[aj h3,aj h3];exact .refl _
 rw[af h3,af h3];by_cases h4:c.op=4
 ·rw[aj h4,aj h4];exact .refl _
 rw[af h4,af h4];by_cases h5:c.op=5
 ·rw[aj h5,aj h5];cases ip vs c.c
  ·exact .refl _
  ·exact⟨rfl,fun e=>absurd e (by simp[Ans.er])⟩
 rw[af h5,af h5,aj (show c.op=6 by omega),Ry];cases vs.any fun v=>v.ranges.any fun x=>decide (x=(⟨c.at_,c.a⟩:Rng))
 ·exact .refl _
 ·exact⟨rfl,fun e=>absurd e (by simp[Ans.er])⟩
theorem Rz (s:Ste)(c:Cmd)(hb:BookOK s.book):SameAct (N0 s c) (D3 s c):=by
 unfold N0 D3;by_cases h1:1<=c.op/\c.op<=6
 ·rw[aj h1,aj h1];exact N1 s.book s.net.vpcs s.net.links c h1
 rw[af h1,af h1];unfold CE Bh;by_cases h7:c.op=7
 ·rw[aj h7,aj (show decide (c.op=7\/c.op=15\/c.op=16)=true by simp[h7]),aj h7,UQ hb];by_cases hw:Af s.book c.a=true
  ·rw[aj hw,aj hw];exact⟨rfl,fun e=>absurd e (by simp[Ans.er])⟩
  ·rw[af hw,af hw];exact .refl _
 rw[af h7];by_cases J7:c.op=15
 ·rw[aj J7,aj (show decide (c.op=7\/c.op=15\/c.op=16)=true by simp[J7]),af h7,aj J7];exact .refl _
 rw[af J7];by_cases Dc:c.op=16
 ·rw[aj Dc,aj (show decide (c.op=7\/c.op=15\/c.op=16)=true by simp[Dc]),af h7,af J7];exact .refl _
 rw[af Dc,af (show ¬decide (c.op=7\/c.op=15\/c.op=16)=true by simp[h7,J7,Dc])];by_cases h8:8<=c.op/\c.op<=14
 ·rw[af (by simpa using h8),aj h8];unfold kA;rcases vG (fun v:Vpc=>v.id==c.a) s.net.vpcs with hi|⟨k,v,hk,hv⟩
  ·rw[aj hi,aj hi];exact .refl _
  ·have hk0:¬(k:Int) < 0:=aa;rw[hk,af hk0,af hk0,Int.toNat_natCast,hv];dsimp only;unfold nG;by_cases h9:c.op=8
   ·rw[aj h9,aj h9];by_cases h0:(cS s.book c.b c.c c.a).2.2=0
    ·rw[aj h0,aj h0];exact .refl _
    ·rw[af h0,af h0];exact .refl _
   rw[af h9,af h9];by_cases h9:c.op=9
   ·rw[aj h9,aj h9];by_cases h0:(d6 v c.at_).2.2=0
    ·rw[aj h0,aj h0];exact .refl _
    ·rw[af h0,af h0];exact .refl _
   rw[af h9,af h9];unfold JD;by_cases h2:c.op=10
   ·exact a5n
   rw[af h2,af h2];by_cases h2:c.op=11
   ·exact a5n
   rw[af h2,af h2];by_cases h2:c.op=12
   ·exact a5n
   rw[af h2,af h2];by_cases h2:c.op=13
   ·exact a5n
   rw[af h2,af h2];exact .refl _
 ·rw[aj h8,af h8];exact⟨rfl,fun e=>absurd e (by simp[Ans.er])⟩
theorem VM (s:Ste)(c:Cmd)(hz:∀p∈s.book.pools,p.leases.length<=3518437208882)(rE:Bk s.net):ai prog 22 [.agg (eR s),.agg (jE c)] (.tup [.agg (eR (xq s c).1),.agg (p7 (xq s c).2.1),.v (.int .i64 (xq s c).2.2)]):=by
 have hc:=Hi s hz rE;unfold xq;by_cases h:iI s=0
 ·rw[af (by simpa using h)];rw[h]at hc;obtain⟨Ax,pJ⟩:=ub h;have De:=dJ Ax;have cg:=iq.1 pJ;have hdo:=W7 s c De cg rE;have Db:=Rz s c De;have iM:=Ln.mk (ls:=[]) (jy s.book De.n8 De.l32);have Vf:=Ln.mk (ls:=[]) (oB s.net cg.n6 cg.n12 cg.vp);clear h Ax pJ De cg;replace hz:=Xj hz;replace rE:=Xj rE;generalize N0 s c=R at*;by_cases he:(D3 s c).2.err=0
  ·rw[af (by simpa using he)];have he':R.2.err=0:=by rw[Db.err];exact he
   rw[<-Db.eq he'];replace he:=Xj he;clear Db;refine pj func22 ntmps22 results22 ?_;first|exact bc|(refine ap ?_;exact dz)
  ·rw[aj he];have he':(R.2.err !=0)=true:=by rw[Db.err];simpa using he
   rw[<-Db.err];replace he:=Xj he;clear Db;refine pj func22 ntmps22 results22 ?_;first|exact bc|(refine ap ?_;exact dz)
 ·rw[aj h];have e1:(iI s !=0)=true:=by simpa using h
  generalize iI s=X at*;replace h:=Xj h;clear hz rE;refine pj func22 ntmps22 results22 ?_;first|exact bc|(refine ap ?_;exact dz)
theorem RealC.box_le {X:Cfg}{e:cu}{h:List Chunk}{a:Act}{w:World}{c:Cx}(hr:RealC X (bS e h) a w c){k T:Nat}{cells cells':List PV}(hk:aD h k= .box T cells)(hlt:k < h.length)(hle:xm cells cells')(h1:∀d∈cells',d.one=true):
 RealC X (bS e (bD h k (.box T cells'))) a w c:=by
 have hh:∀k',(bS e (bD h k (.box T cells'))).heap k'=if k'=k then .box T cells' else (bS e h).heap k':=fun k'=>iB (V' hlt) k';have hb:∀k',c.block k' ((bS e (bD h k (.box T cells'))).heap k')=c.block k' ((bS e h).heap k'):=a5m
 refine⟨hr.size,hr.defers,hr.ext,hr.inv,hr.fresh,fun b=>?_,fun k' b Lx=>?_,fun k' k'' b h1 h2=>?_,hr.env,fun k'=>?_,hr.lent⟩
 ·rw[hr.mu b];simp only[hb]
 ·rw[hb]at Lx;exact hr.new k' b Lx
 ·rw[hb]at h1 h2;exact hr.apart k' k'' b h1 h2
 ·rw[hh];split
  ·rename_i he;subst he;have bp:=hr.chunk k';rw[show (bS e h).heap k'=_ from hk]at bp;cases bp with
   |box _ _ b vs hb hhp JX dL=>exact .box T cells' b vs hb hhp (tK hle JX) h1
  ·exact hr.chunk k'
theorem wV {P:Program}{n m:Nat}{e:cu}{h:List Chunk}(k:Nat){T:Nat}(ds ds':List D)(hk:aD h k= .box T (ds.map .d))(hlt:k < h.length)(hle:sj ds ds')(h1:ds'.all D.one=true):eS P n m e h e (bD h k (.box T (ds'.map .d))):=
 fun X _ _ _ a w ⟨c,hc⟩=>⟨c,hc.box_le hk hlt (IM hle) fun d hd=>by
  obtain⟨x,hx,rfl⟩:=XN.1 hd;exact XA.1 h1 x hx⟩
theorem a3Y {p:Prop}(h:p:=by
 refine(cZ ah 6 47 4 rfl).trans ((wV 1 [.v (.int .i64 0),.v (.slice none 0 0),.v (.slice none 0 0),.v (.slice none 0 0)] (eR .zero) rfl ah ⟨aP.refl _,aP.nil _,aP.nil _,aP.nil _,trivial⟩ rfl).trans ?_);exact wf):p:=h
theorem a6l {p:Prop}(h:p:=by
 intro _ C;rw[Xq];first|exact bc|(refine ap ?_;exact dz)):p:=h
theorem Lc {l:List Cmd}{k:Nat}{c:Cmd}(h:l[k]? =some c):d7 .zero (l.take (k+1))=(xq (d7 .zero (l.take k)) c).1/\lc .zero (l.take (k+1))=lc .zero (l.take k)++[(xq (d7 .zero (l.take k)) c).2.1]:=by
 rw[ak h,Aa,Ab];exact⟨rfl,rfl⟩
theorem W8 (l:List Cmd):ai prog 13 [.sl 10 (l.map jE)] (.tup [.agg (eR (rR l).1),.sl 4 ((rR l).2.1.map p7),.v (.int .i64 (rR l).2.2)]):=by
 unfold rR;by_cases h:200 < l.length
 ·rw[aj h];have e1:decide ((l.length:Int)>200)=true:=aK;replace h:=Xj h;refine pj func13 ntmps13 results13 ?_;refine ap ?_;exact dz
 ·rw[af h];have e1:decide ((l.length:Int)>200)=false:=aK;have hle:l.length<=200:=aa;clear h;refine pj func13 ntmps13 results13 ?_;refine ap ?_;refine bf ag am l (fun _=>True) (fun k=>[(18,.d (.v (.int .i64 k))),(17,.d (.v (.int .i64 l.length))),(16,.d (.sl 10 (l.map jE))),(6,.own 2 k),(5,.ptr 1 0),(2,.ptr 0 0)])
   (fun k=>[.box 36 [.d (.v (.int .i64 0)),.d (.v (.slice none 0 0)),.d (.v (.slice none 0 0)),.d (.v (.slice none 0 0))],.box 36 ((eR (d7 .zero (l.take k))).map .d),.row 47 4 k (ab ((lc .zero (l.take k)).map p7))]) trivial ?_ ?_ ?_
  ·exact a3Y
  ·intro k c hc hk _ C hC;have eo:(k:Int) < (l.length:Int):=aa;have db:=wi k aa;have lR:=jA (l.take k);have hdo:=a1n (d7 .zero (l.take k)) c lR.hz;obtain⟨mQ,pG⟩:=Lc hc;have jC:=vK (l.take k) .zero;have hlt:(Yf k l).length=k:=by rw[Xp];omega
   rw[hlt]at jC;generalize xq (d7 .zero (l.take k)) c=R at*;generalize d7 .zero (l.take k)=S at*;generalize lc .zero (l.take k)=A at*;replace mQ:=Xj mQ;replace pG:=Xj pG;replace lR:=Xj lR;refine ap ?_;refine hC _ _ trivial ?_;rw[mQ.out,pG.out];exact wf (hh:=by rw[Xo,Xm,Xr];rfl)
  ·exact a6l
theorem Ld (l:List Cmd):ai prog 8 [.sl 10 (l.map jE)] (.tup [.agg (eR (rR l).1),.sl 4 ((rR l).2.1.map p7),.v (.int .i64 (rR l).2.2)]):=by
 unfold rR;by_cases h:200 < l.length
 ·rw[aj h];have e1:decide ((l.length:Int)>200)=true:=aK;replace h:=Xj h;refine pj func8 ntmps8 results8 ?_;refine ap ?_;exact dz
 ·rw[af h];have e1:decide ((l.length:Int)>200)=false:=aK;have hle:l.length<=200:=aa;clear h;refine pj func8 ntmps8 results8 ?_;refine ap ?_;refine bf ag am l (fun _=>True) (fun k=>[(7,.d (.v (.int .i64 k))),(6,.own 2 k),(5,.ptr 1 0),(2,.ptr 0 0),(0,.d (.sl 10 (l.map jE)))])
   (fun k=>[.box 36 [.d (.v (.int .i64 0)),.d (.v (.slice none 0 0)),.d (.v (.slice none 0 0)),.d (.v (.slice none 0 0))],.box 36 ((eR (d7 .zero (l.take k))).map .d),.row 47 4 k (ab ((lc .zero (l.take k)).map p7))]) trivial ?_ ?_ ?_
  ·exact a3Y
  ·intro k c hc hk _ C hC;have eo:(k:Int) < (l.length:Int):=aa;have db:=wi k aa;have lR:=jA (l.take k);have hdo:=VM (d7 .zero (l.take k)) c lR.hz lR.nz;obtain⟨mQ,pG⟩:=Lc hc;have jC:=vK (l.take k) .zero;have hlt:(Yf k l).length=k:=by rw[Xp];omega
   rw[hlt]at jC;generalize xq (d7 .zero (l.take k)) c=R at*;generalize d7 .zero (l.take k)=S at*;generalize lc .zero (l.take k)=A at*;replace mQ:=Xj mQ;replace pG:=Xj pG;replace lR:=Xj lR;refine ap ?_;refine hC _ _ trivial ?_;rw[mQ.out,pG.out];exact wf (hh:=by rw[Xo,Xm,Xr];rfl)
  ·exact a6l
theorem wW (s:Ste)(h:nj s):ai prog 12 [.agg (eR s),.agg (eR s)] (.v (.bool true)):=by
 have h1:=GS s.book h.1;have h2:=Jw s.net h.2;clear h;refine pj func12 ntmps12 results12 ?_;exact bc
theorem Eg (s:ByteArray):repN s<=200/\42*repN s<=s.size:=by
 unfold repN;split
 ·rename_i h;have hr:=h.2.choose_spec;refine⟨hr.le,?_⟩;generalize h.2.choose=n at*;rcases ZG n with h0|h0
  ·omega
  ·have:=(hr.all (n - 1) aa).1;omega
 ·omega
noncomputable def recS (s:ByteArray):Ste × Int × Int:=if lq s≠0 then (.zero,0,lq s)else (d7 .zero (repL s),repN s,0)
noncomputable def ansS (s:ByteArray) (c:Cmd):Ans:=(xq (d7 .zero (repL s)) c).2.1
noncomputable def outS (s:ByteArray) (c:Cmd):ByteArray:=if (ansS s c).err=0 then s.extract 0 (42*repN s)++PB c else s.extract 0 (42*repN s)
noncomputable def storS (s:ByteArray) (c:Cmd):ByteArray × Ans × Int:=
 if lq s≠0 then (⟨#[]⟩,.zero,lq s)else if uC c=false then (⟨#[]⟩,.zero,3)else if repN s=200 then (⟨#[]⟩,.zero,2)else (outS s c,ansS s c,0)
theorem Ai (s:ByteArray):rR (repL s)=(d7 .zero (repL s),lc .zero (repL s),0):=by
 unfold rR;rw[af (by rw[m7];have:=(Eg s).1;omega)]
theorem Le {s:ByteArray}(h:lq s=0):s.size<=16384:=by
 unfold lq at h;split at h
 ·assumption
 ·cases h
theorem vL (s:ByteArray):ai prog 6 [.v (.string s)] (.tup [.agg (eR (recS s).1),.v (.int .i64 (recS s).2.1),.v (.int .i64 (recS s).2.2)]):=by
 have h1:=FM s;have h2:=W8 (repL s);have hl:=m7 s;rw[Ai]at h2;dsimp only at h2;unfold recS;generalize repL s=L at*;generalize repN s=n at*;generalize lc .zero L=A at*;generalize d7 .zero L=S at*;generalize lq s=E at*;subst hl;by_cases hE:E=0
 ·subst hE;rw[af ah];refine pj func6 ntmps6 results6 ?_;first|exact bc|(refine ap ?_;exact dz)
 ·rw[aj hE];have hE2:(E==0)=false:=by simpa using hE
  have hE3:(E !=0)=true:=by simpa using hE
  replace hE:=Xj hE;refine pj func6 ntmps6 results6 ?_;first|exact bc|(refine ap ?_;exact dz)
theorem Lf (s:ByteArray)(c:Cmd):ai prog 9 [.v (.string s),.agg (jE c)] (.tup [.v (.string (storS s c).1),.agg (p7 (storS s c).2.1),.v (.int .i64 (storS s c).2.2)]):=by
 have h1:=vL s;unfold storS;by_cases hE:lq s=0
 ·rw[af (by simpa using hE)];have cL:=Le hE;have hr:recS s=(d7 .zero (repL s),(repN s:Int),0):=by unfold recS;rw[af (by simpa using hE)]
  rw[hr]at h1;dsimp only at h1;clear hr;have h2:=TL c;cases hc:uC c with
  |false=>
   rw[hc]at h2;rw[aj rfl];refine pj func9 ntmps9 results9 ?_;first|exact bc|(refine ap ?_;exact dz)
  |true=>
   rw[hc]at h2;rw[af ah];obtain⟨hn,C4⟩:=Eg s;by_cases vV:repN s=200
   ·rw[aj vV];rw[vV]at h1;clear hn C4;refine pj func9 ntmps9 results9 ?_;first|exact bc|(refine ap ?_;exact dz)
   ·rw[af vV];have h3:=a1n (d7 .zero (repL s)) c (jA (repL s)).hz;have h4:=FM s;have h5:=TM (yN c) (by rw[B8];omega);have e1:((repN s:Int)==200)=false:=aK;have h42:(0:Int)<=42*(repN s:Int):=aa;replace vV:=Xj vV;have Ol:=B9 c;have hex:(s.extract 0 (42*repN s)).size=42*repN s:=by rw[YT];omega
    have hx:(42*(repN s:Int)).toNat=42*repN s:=aa;unfold outS ansS;unfold PB at Ol ⊢;generalize xq (d7 .zero (repL s)) c=R at*;generalize d7 .zero (repL s)=S at*;generalize gH (yN c)=F at*;generalize yN c=T at*;generalize (repL s).map jE=L at*;generalize repN s=n at*;by_cases ha:R.2.1.err=0
    ·rw[aj ha];have pG:(s.extract 0 (42*n)).size+F.size<=9223372036854775807:=aa;refine pj func9 ntmps9 results9 ?_;first|exact bc|(refine ap ?_;exact dz)
    ·rw[af ha];have ha':(R.2.1.err==0)=false:=by simpa using ha
     replace ha:=Xj ha;refine pj func9 ntmps9 results9 ?_;first|exact bc|(refine ap ?_;exact dz)
 ·rw[aj hE];have hr:recS s=(.zero,0,lq s):=by unfold recS;rw[aj hE]
  rw[hr]at h1;dsimp only at h1;have hE3:(lq s !=0)=true:=by simpa using hE
  replace hE:=Xj hE;refine pj func9 ntmps9 results9 ?_;first|exact bc|(refine ap ?_;exact dz)
section
open Go.Proofs
theorem UR (n:Int)(h:l7 n=true):LP (256*(256*(256*(256*0+n / 16777216 % 256)+n / 65536 % 256)+n / 256 % 256)+n % 256)=n:=by
 obtain⟨h1,h2⟩: -2147483648<=n/\n<=2147483647:=by simpa[l7]using h
 unfold LP;split<;>omega
theorem N2 (n:Int):∀m∈xF n,ll m:=by
 intro m hm;simp[xF]at hm;rcases hm with rfl|rfl|rfl|rfl<;>exact⟨by omega,by omega⟩
theorem JE (c:WCmd)(h:c.ok=true):kL (aM (pP c))=c:=by
 obtain⟨h0,h1,h2⟩:=Di h;unfold pP;rw[r7]
 ·have e:=fun n hn=>UR n (h2 n hn);cases c with
  |mk op a b c at_ len min max usual cool=>
   simp only[WCmd.nums,X2,List.not_mem_nil,or_false]at e;have:=e a ah;have:=e b ah;have:=e c ah;have:=e at_ ah;have:=e len ah;have:=e min ah;have:=e max ah;have:=e usual ah;have:=e cool ah;show WCmd.mk _ _ _ _ _ _ _ _ _ _=_;congr 1
 ·intro m hm;rcases X2.1 hm with rfl|hm
  ·exact⟨by omega,by omega⟩
  ·obtain⟨n,-,hn⟩:=ZY.1 hm;exact N2 n m hn
theorem wX (a b c:ByteArray)(i j:Nat)(hi:i=a.size)(hj:j=a.size+b.size):(a++b++c).extract i j=b:=by
 subst hi hj;apply ZV;apply D';simp only[_p,Z0,_t,_c,Z'];have ha:a.data.toList.length=a.size:=by rw[ZR];rfl
 have hb:b.data.toList.length=b.size:=by rw[ZR];rfl
 rw[XV,<-ha,List.drop_left,ha,show a.size+b.size - a.size=b.data.toList.length from by omega,List.take_left]
theorem nm (a b:List WCmd):l9 (a++b)=l9 a++l9 b:=by
 apply ZV;rw[Z0];simp[l9,nM]
theorem Ho (c:WCmd):l9 [c]=oK c:=by
 apply ZV;simp[l9,nM]
theorem N3 (l:List WCmd)(tail:ByteArray)(k:Nat)(hk:k < l.length):∃a b,l9 l++tail=a++oK l[k]++b/\a.size=42*k:=by
 refine⟨l9 (l.take k),l9 (l.drop (k+1))++tail,?_,?_⟩
 ·have e:l=l.take k++[l[k]]++l.drop (k+1):=ah;conv=>lhs;rw[e]
  rw[nm,nm,Ho,_A]
 ·rw[nN,Xp];omega
theorem Hp (c:WCmd):∃a b,oK c=a++pP c++b/\a.size=1:=by
 refine⟨strOfNums [((pP c).size:Int)],strOfNums (Oo (lm (qJ (pP c)))),?_,?_⟩
 ·unfold oK;rw[BC _ (by rw[qK];omega)]
 ·rw[strOfNums_size];rfl
theorem Hq (l:List WCmd)(tail:ByteArray)(k:Nat)(hk:k < l.length):EZ (l9 l++tail) (42*k)/\(l9 l++tail).extract (42*k+1) (42*k+38)=pP l[k]:=by
 obtain⟨a,b,he,ha⟩:=N3 l tail k hk;obtain⟨a',b',he',ha'⟩:=Hp l[k];have h1:(l9 l++tail).extract (42*k) (42*k+42)=oK l[k]:=by
  rw[he];exact wX _ _ _ _ _ ha.symm (by rw[ha,pQ])
 have h2:(l9 l++tail).extract (42*k+1) (42*k+38)=pP l[k]:=by
  rw[he,he',show a++(a'++pP l[k]++b')++b=(a++a')++pP l[k]++(b'++b) from by simp only[_A]];exact wX _ _ _ _ _ (by rw[ZD,ha,ha']) (by rw[ZD,ha,ha',qK])
 refine⟨⟨?_,?_⟩,h2⟩
 ·rw[ZD,nN];omega
 ·rw[h1,h2];rfl
theorem RA (l:List WCmd)(hl:l.all WCmd.ok=true)(tail:ByteArray)(k:Nat)(hk:k < l.length):LW (l9 l++tail) k=l[k]:=by
 unfold LW;rw[(Hq l tail k hk).2,JE _ (XA.1 hl _ (Ye hk))]
theorem JF (l:List WCmd)(hl:l.all WCmd.ok=true)(tail:ByteArray)(n:Nat)(hn:n<=l.length):ma (l9 l++tail) n=l.take n:=by
 apply List.ext_getElem
 ·rw[fq,Xp];omega
 ·intro i h1 h2;rw[fq]at h1;simp[ma,RA l hl tail i aa]
end
section
open Go.Proofs
theorem Eh (a b:ByteArray)(k:Nat)(h:a.size<=k):(a++b).extract 0 k=a++b.extract 0 (k - a.size):=by
 apply ZV;apply D';simp only[_p,Z0,_t,_c,Z',List.drop_zero,Zj];have ha:a.data.toList.length=a.size:=by rw[ZR];rfl
 rw[List.take_append,XG aa,ha]
theorem Lg (l:List WCmd)(k:Nat)(hk:k<=42*l.length):∃t,(l9 l).extract 0 k=l9 (l.take (k / 42))++t/\t.size < 42:=by
 have hm:42*(k / 42)<=k:=Nat.mul_div_le k 42;have hs:(l9 (l.take (k / 42))).size=42*(k / 42):=by rw[nN,Xp];omega
 refine⟨(l9 (l.drop (k / 42))).extract 0 (k - 42*(k / 42)),?_,?_⟩
 ·conv=>lhs;rw[<-YK (k / 42) l,nm]
  rw[Eh _ _ _ (by rw[hs];exact hm),hs]
 ·rw[YT];omega
theorem Ei (l:List WCmd)(hl:l.length<=200)(t:ByteArray)(ht:t.size < 42):Replayed (l9 l++t) l.length:=
 ⟨hl,fun k hk=>(Hq l t k hk).1,.inr fun hf=>by
  have:=hf.1;rw[ZD,nN]at this;omega⟩
theorem RB (l:List WCmd)(bJ:l.all WCmd.ok=true)(k:Nat)(hk:k<=42*l.length):ma ((l9 l).extract 0 k) (k / 42)=l.take (k / 42):=by
 obtain⟨t,ht,hts⟩:=Lg l k hk;rw[ht,JF _ (XA.2 fun x hx=>XA.1 bJ x (Yd hx)) _ _ (by rw[Xp];omega)];rw[List.take_take,Zr]
end
theorem Lh {s:ByteArray}{k:Nat}(h:k=s.size):s.extract 0 k=s:=by
 subst h;apply ZV;apply D';simp only[_p,_t,Z',List.drop_zero,Zj];exact XG (by rw[ZR];exact Xz _)
def xt (l:List Cmd):ByteArray:=l9 (l.map xk)
theorem Aj (l:List Cmd):(xt l).size=42*l.length:=by unfold xt;rw[nN,XB]
theorem RC (l:List Cmd)(c:Cmd):xt (l++[c])=xt l++PB c:=by
 unfold xt;rw[Xo,nm,List.map_singleton,Ho];rfl
theorem W9 {l:List Cmd}(h:∀c∈l,uC c=true):(l.map xk).all WCmd.ok=true:=by
 rw[List.all_map,XA];exact h
theorem RD (l:List Cmd):(l.map xk).map Wo=l:=by
 rw[Z6];exact(Y4 fun c _=>MA c).trans (List.map_id _)
theorem US (l:List Cmd)(hl:l.length<=200)(ho:∀c∈l,uC c=true)(k:Nat)(hk:k<=42*l.length):
 repN ((xt l).extract 0 k)=k / 42/\repL ((xt l).extract 0 k)=l.take (k / 42)/\lq ((xt l).extract 0 k)=0:=by
 have hz:((xt l).extract 0 k).size<=16384:=by rw[YT,Aj];omega
 have mO:(l.map xk).length=l.length:=XB _;obtain⟨t,ht,hts⟩:=Lg (l.map xk) k (by rw[mO];exact hk);have hr:Replayed ((xt l).extract 0 k) (k / 42):=by
  have:=Ei ((l.map xk).take (k / 42)) (by rw[Xp,mO];omega) t hts;rw[Xp,mO,Nat.min_eq_left aa]at this;unfold xt;rw[ht];exact this
 have hn:=Kl hz hr;refine⟨hn,?_,by unfold lq;rw[aj hz]⟩;unfold repL;rw[aj hz,hn];unfold xt;rw[RB _ (W9 ho) k (by rw[mO];exact hk),<-ZI];exact RD _
theorem Li (l:List Cmd)(hl:l.length<=200)(ho:∀c∈l,uC c=true):repN (xt l)=l.length/\repL (xt l)=l/\lq (xt l)=0:=by
 have h:=US l hl ho (42*l.length) (Xz _);rw[Lh (Aj l).symm,Nat.mul_div_cancel_left _ aa,Xq]at h;exact h
theorem UT (l:List Cmd)(hl:l.length<=200)(ho:∀c∈l,uC c=true):recS (xt l)=(d7 .zero l,(l.length:Int),0):=by
 obtain⟨h1,h2,h3⟩:=Li l hl ho;unfold recS;rw[af (by simpa using h3),h1,h2]
def oC (k:List Cmd)(c:Cmd):List Cmd:=if (xq (d7 .zero k) c).2.1.err=0 then k++[c]else k
def lC (l:List Cmd):List Cmd:=l.foldl (fun k c=>if uC c=true then oC k c else k) []
theorem JG (l:List Cmd)(c:Cmd):lC (l++[c])=if uC c=true then oC (lC l) c else lC l:=by
 unfold lC;rw[Zm];rfl
theorem UU (l:List Cmd):∀k:List Cmd,(∀c∈k,uC c=true)->∀c∈l.foldl (fun k c=>if uC c=true then oC k c else k) k,uC c=true:=by
 induction l with
 |nil=>intro k hk;exact hk
 |cons x r ih=>
  intro k hk;refine ih _ ?_;show ∀c∈(if uC x=true then oC k x else k),uC c=true;split
  ·rename_i hx;unfold oC;split
   ·intro c hc;rcases X0.1 hc with hc|hc
    ·exact hk c hc
    ·rw[X7.1 hc];exact hx
   ·exact hk
  ·exact hk
theorem RE (l:List Cmd):∀c∈lC l,uC c=true:=UU l [] ah
theorem RF (l:List Cmd):∀k:List Cmd,(l.foldl (fun k c=>if uC c=true then oC k c else k) k).length<=k.length+l.length:=by
 induction l with
 |nil=>intro k;exact Xz _
 |cons x r ih=>
  intro k;have:=ih (if uC x=true then oC k x else k);have h2:(if uC x=true then oC k x else k).length<=k.length+1:=by
   unfold oC;split
   ·split
    ·simp
    ·omega
   ·omega
  simp only[YO,Xx];omega
theorem N4 (l:List Cmd):(lC l).length<=l.length:=by
 have:=RF l [];simpa[lC]using this
theorem RG (l:List Cmd)(hl:l.length < 200)(ho:∀c∈l,uC c=true)(c:Cmd):
 storS (xt l) c=if uC c=true then (xt (oC l c),(xq (d7 .zero l) c).2.1,0)else (⟨#[]⟩,.zero,3):=by
 obtain⟨h1,h2,h3⟩:=Li l aa ho;unfold storS;rw[af (by simpa using h3),h1];cases hc:uC c with
 |false=>rfl
 |true=>
  rw[af ah,af aa,aj rfl];unfold outS ansS oC;rw[h1,h2,Lh (Aj l).symm];split
  ·rw[RC]
  ·rfl
section
open Go.Proofs
theorem JN:(prog.info? 76).map (·.size)=some 2:=aJ
theorem Hz:(prog.info? 5).map (fun i=>(i.zero,i.size,i.bytes))=some (some (.int .u8 0),1,1):=aJ
theorem Hs {w:World}{b:Nat}{cs:Array Value}{T:Nat}{fr:Nat × Nat}(h:w.heap[b]? =some (.cells cs T fr)):w.setRow b cs=w:=by
 have e:(w.setRow b cs).heap=w.heap:=by
  apply Array.ext_getElem?;intro i;by_cases e:i=b
  ·subst e;rw[setRow_heap w i _ cs _ _ h,h]
  ·exact setRow_other w b i cs e
 calc w.setRow b cs={w with heap:=(w.setRow b cs).heap}:=rfl
  _=w:=by rw[e]
theorem xu (b:Nat)(ad:Option Addr)(v:Value)(w:World)(cf:w.heap[b]? =some (.cells #[.pointer ad,v] 78 (0,0)))(xa:ad=none\/ad=some ⟨b,0,none⟩):
 Calls prog 130 #[.pointer (some ⟨b,0,none⟩)] w fun e w'=>e= .returned (.tuple #[])/\w'=w.setRow b #[.pointer (some ⟨b,0,none⟩),v]:=by
 obtain⟨j,hj,hjs⟩:=XJ.1 JN;have h0:w.cell? ⟨b,0,none⟩=some (.pointer ad):=by rw[Y' cf];rfl
 rcases xa with rfl|rfl
 ·have a2g:liesAt prog prog.depth 78 (2 / prog.cellsOf 78) 0 76 1=true:=aJ;have Of:w.shape? b=some (78,2):=by simp[World.shape?,cf]
  have hfz:w.frozen? ⟨b,0,none⟩=false:=Lib.frozen_of_heap cf 0;rw[show w.setRow b #[.pointer (some ⟨b,0,none⟩),v]=w.setCell ⟨b,0,none⟩ (.pointer (some ⟨b,0,none⟩)) from (setCell_eq_setRow w b 0 _ _ _ _ cf).symm];clear cf;go_enter func130,ntmps130
  go_wp2
  rw[Lib.run_to_unsafe w ⟨b,0,none⟩ underlying73 underlying278 hj (by rw[hjs];decide) Of (ZX 1)];simp only[Result.andThen];rw[Oper.upon_value];go_wp2
  rw[run_callFunc_extern func220 aJ aJ aJ (e:=Extern.AbiNoEscape.same) aJ];rw[Lib.run_noEscape];simp only[Result.andThen];rw[Oper.upon_value];go_wp2
  rw[Lib.run_from_unsafe w ⟨b,0,none⟩ underlying278 underlying73 hj Of a2g];simp only[Result.andThen];rw[Oper.upon_value];go_wp2
  go_end0
  exact⟨rfl,rfl⟩
 ·rw[Hs cf];clear cf;go_enter func130,ntmps130
  go_wp2
  rw[Lib.run_neq_ptr_same w _ underlying73 hj];go_wp2
  go_end0
  exact⟨rfl,rfl⟩
theorem Ej {P:Program}{w:World}(t u ty e:TypeId)(i:TypeInfo)(ht:P.underlying t=some (.slice e))(hu:P.underlying u=some .string)(hi:P.info? e=some i)(hz:i.zero=some (.int .u8 0))
 (nx:i.size=1) (EO:i.bytes=1) (v:Value) (n:Nat) (xs:List Value) (bj:OwnV w e 1 v n xs) (s:ByteArray) (hb:n+s.size<=140737488355328):
 ∃v' w',(Builtin.append_ #[t,u] ty #[v,.string s]).run P w= .ok v' w'/\OwnV w' e 1 v' (n+s.size) (xs++Zp s)/\OneB w w' (di v)/\(di v'=di v\/∀b,di v'=some b->w.heap.size<=b):=by
 have VS:∀k,k<=140737488355328->k<=maxLen:=fun k hk=>by unfold maxLen;omega
 have a2h:∀(k:Nat),k=0->s.size<=140737488355328->∃v' w',(Builtin.append_ #[t,u] ty #[.slice none 0 0,.string s]).run P w= .ok v' w'/\OwnV w' e 1 v' (k+s.size) ([]++Zp s)/\OneB w w' none/\(∀b,di v'=some b->w.heap.size<=b):=by
  rintro k rfl hs;obtain⟨v',w',hr,ho,hg,-⟩:=Lib.run_append_own_string (P:=P) w w.heap.size t u ty e i ht hu hi hz nx EO _ 0 [] (I' w _ e 1) s (VS _ aa) aa (Xz _);refine⟨v',w',hr,.of_row ho,⟨hg.os,hg.tape,hg.output,hg.size,fun b hb' _=>hg.block b hb' (by simp[Value.ownBlock])⟩,fun b hb'=>?_⟩;rcases ho.2 with⟨rfl,_⟩|⟨g,cap,cur,rfl,cT,_⟩
  ·cases hb'
  ·cases cap with
   |zero=>cases hb'
   |succ cap=>cases hb';exact cT
 cases bj with
 |nil=>
  obtain⟨v',w',g1,g2,g3,g4⟩:=a2h 0 rfl aa;exact⟨v',w',g1,g2,g3,.inr g4⟩
 |zero a=>
  by_cases hm:s.size=0
  ·have hf:=Lib.run_firstCells_string (P:=P) w 1 s;have hn:Zp s=[]:=X4 (by rw[Lib.strCells_length];exact hm);rw[hm,hn]at hf;refine⟨.slice (some a) 0 0,w,?_,by rw[hm,hn];exact .zero a,⟨rfl,rfl,rfl,Xz _,fun _ _ _=>rfl⟩,.inl rfl⟩;simp[Builtin.append_,run_underlying ht,run_underlying hu,sizeOf,typeInfo,hi,nx,Builtin.lenOf,hm,hf,storeCells]
  ·have pJ:=run_append_nil_string (P:=P) w t u ty e i (.int .u8 0) ht hu hi hz s aa aa (by rw[EO];omega);have hg:=Lib.run_append_grow_string (P:=P) w t u ty e i (.int .u8 0) ht hu hi hz a 0 0 [] ah (fun j v h=>by simp at h) s aa aa (by rw[EO];exact growslice_fits aa aa);obtain⟨v',w',g1,g2,g3,g4⟩:=a2h 0 rfl aa;rw[pJ]at g1;have e1:(s.data.map fun b=>Value.int .u8 b.toNat)=(Zp s).toArray:=by
    apply D';simp[Zp]
   rw[e1]at g1;simp only[XE]at hg;have e2:(#[]++(Zp s).toArray:Array Value)=(Zp s).toArray:=ah;rw[show ([]:List Value).toArray=#[] from rfl,e2,g1]at hg;exact⟨v',w',hg,g2,g3,.inr g4⟩
 |row g n cap cur xs h0 hh hn hm hs hl ht'=>
  obtain⟨cap,rfl⟩:∃c,cap=c+1:=⟨cap - 1,by omega⟩;have bj:w.ownsRow 0 e 1 (.slice (some ⟨g,0,none⟩) n (cap+1)) n xs:=⟨hl,.inr ⟨g,cap+1,cur,rfl,XD _,hh,hn,hm,hs,ht'⟩⟩;obtain⟨v',w',hr,ho,hg,-⟩:=Lib.run_append_own_string (P:=P) w 0 t u ty e i ht hu hi hz nx EO _ n xs bj s (VS _ hb) hb (XD _);refine⟨v',w',hr,.of_row ho,⟨hg.os,hg.tape,hg.output,hg.size,fun b hb' bH=>hg.block b hb' (fun e=>bH e.symm)⟩,?_⟩;by_cases jD:n+s.size<=cap+1
  ·have:=Lib.run_append_room_string (P:=P) w t u ty e i ht hu hi nx g n (cap+1) cur hh s jD aa;rw[this]at hr;cases hr;exact .inl rfl
  ·have:=Lib.run_append_grow_string (P:=P) w t u ty e i (.int .u8 0) ht hu hi hz ⟨g,0,none⟩ n (cap+1) xs (by rw[nx];simpa using hl) (bj.cells (g:=g) rfl) s aa aa (by rw[EO];exact growslice_fits aa aa);rw[this]at hr;cases hr;refine .inr fun b hb'=>?_;have:=cR (a:=⟨w.heap.size,0,none⟩) (n:=n+s.size) (cap:=grownCap w (n+s.size) (cap+1) e) (by have:=grownCap_ge w (n+s.size) (cap+1) e;omega);rw[this]at hb';cases hb';exact Xz _
theorem xv {P:Program}{w:World}{ops:Array Oper}{rest:List Oper}{o:Oper}{a:Act}{Q:Exit->Act->World->Prop}(hgd:o.guard=none)(sl x:Operand)(t u:TypeId)
 (ho:o.op= .call {callee:= .builtin .append,args:=#[sl,x],argTypes:=#[t,u]}) (e:TypeId) (i:TypeInfo) (ht:P.underlying t=some (.slice e)) (hu:P.underlying u=some .string) (hi:P.info? e=some i) (hz:i.zero=some (.int .u8 0))
 (nx:i.size=1) (EO:i.bytes=1) (v:Value) (n:Nat) (xs:List Value) (hs:a.eval sl=v) (bj:OwnV w e 1 v n xs) (s:ByteArray) (hx:a.eval x= .string s) (hb:n+s.size<=140737488355328)
 (h:∀v' w',OwnV w' e 1 v' (n+s.size) (xs++Zp s)->OneB w w' (di v)->(di v'=di v\/∀b,di v'=some b->w.heap.size<=b)->wpList P ops Q rest (a.put o.dst v') w'):wpList P ops Q (o::rest) a w:=by
 refine wpList_plain hgd fun K hK=>?_;obtain⟨v',w',hr,h2,h3,h4⟩:=Ej (P:=P) (w:=w) t u o.type e i ht hu hi hz nx EO v n xs bj s hb;unfold Oper.wp execOp;simp only[ho,resolve,invoke,builtin,Sem.run_bind,Sem.run_pure,Result.andThen_ok,List.map_toArray,Xm,Xr,hs,hx,hr];exact hK _ _ (h v' w' h2 h3 h4)
theorem px (b:Nat)(ad:Option Addr)(v:Value)(n:Nat)(xs:List Value)(s:ByteArray)(w:World)(cf:w.heap[b]? =some (.cells #[.pointer ad,v] 78 (0,0)))(xa:ad=none\/ad=some ⟨b,0,none⟩)
 (bj:OwnV w 5 1 v n xs) (bH:di v≠some b) (bB:n+s.size<=140737488355328):
 Calls prog 63 #[.pointer (some ⟨b,0,none⟩),.string s] w fun e w'=>e= .returned (.tuple #[.int .i64 s.size,.nilIface])/\
  ∃v' w2,OneB (w.setRow b #[.pointer (some ⟨b,0,none⟩),v]) w2 (di v)/\OwnV w2 5 1 v' (n+s.size) (xs++Zp s)/\(di v'=di v\/∀b',di v'=some b'->(w.setRow b #[.pointer (some ⟨b,0,none⟩),v]).heap.size<=b')/\w'=w2.setRow b #[.pointer (some ⟨b,0,none⟩),v']:=by
 obtain⟨i0,hi,vT,mW,rT⟩:=info_parts Hz;have mX:=xu b ad v w cf xa;have j7:=setRow_heap w b _ #[.pointer (some ⟨b,0,none⟩),v] _ _ cf;have a2i:OwnV (w.setRow b #[.pointer (some ⟨b,0,none⟩),v]) 5 1 v n xs:=bj.same fun b' hb'=>setRow_other w b b' _ (fun e=>bH (by rw[hb',e]));generalize w.setRow b #[.pointer (some ⟨b,0,none⟩),v]=w1 at*;clear xa cf bj;go_enter func63,ntmps63
 go_wp2_with fail
 refine mX.mono ?_;rintro e w1 ⟨rfl,rfl⟩;have c0:w1.cell? ⟨b,0,none⟩=some (.pointer (some ⟨b,0,none⟩)):=by rw[Y' j7];rfl
 have c1:w1.cell? ⟨b,1,none⟩=some v:=by rw[Y' j7];rfl
 have hlt:b < w1.heap.size:=by
  rcases XM b w1.heap.size with h'|h'
  ·exact h'
  ·simp[Yo h']at j7
 go_wp2_with (at_builtin;refine xv rfl _ _ 74 9 rfl 5 i0 underlying74 underlying9 hi vT mW rT _ _ _ rfl a2i s rfl bB ?_)
 intro v' w2 cV dL Oy;have iO:w2.heap[b]? =some (.cells #[.pointer (some ⟨b,0,none⟩),v] 78 (0,0)):=by
  rw[dL.block b hlt bH];exact j7
 have d1:w2.cell? ⟨b,1,none⟩=some v:=by rw[Y' iO];rfl
 have f1:w2.frozen? ⟨b,1,none⟩=false:=Lib.frozen_of_heap iO 1;have cp:w2.setRow b #[.pointer (some ⟨b,0,none⟩),v']=w2.setCell ⟨b,1,none⟩ v':=(setCell_eq_setRow w2 b 1 _ _ _ _ iO).symm;have ry:=cV.one;obtain⟨ao,n',cap,rfl⟩:∃ao n' cap,v'= .slice ao n' cap:=by
  clear cp Oy;generalize n+s.size=N at cV;generalize xs++Zp s=ys at cV;cases cV<;>exact⟨_,_,_,rfl⟩
 clear j7 iO c0 c1;go_wp2
 go_ret2
 exact⟨rfl,_,w2,dL,cV,Oy,cp.symm⟩
theorem JH (b:Nat)(p:Value)(v:Value)(l:List UInt8)(w:World)(cf:w.heap[b]? =some (.cells #[p,v] 78 (0,0)))(bj:OwnV w 5 1 v l.length (Zi l))(h0:l≠[]):
 Calls prog 35 #[.pointer (some ⟨b,0,none⟩)] w fun e w'=>e= .returned (.string ⟨l.toArray⟩)/\OneB w w' (di v):=by
 have rC:l.length≠0:=by simpa using h0
 generalize hn:l.length=n at bj;generalize HB:Zi l=ys at bj;cases bj with
 |nil=>omega
 |zero=>omega
 |row g _ cap cur _ JV hg Ls JS eV hl VT=>
  subst hn HB;have lx:prog.cellsOf 5=1:=aJ;have c1:w.drew.cell? ⟨b,1,none⟩=some (.slice (some ⟨g,0,none⟩) l.length cap):=by
   have:w.drew.heap[b]? =some (.cells #[p,.slice (some ⟨g,0,none⟩) l.length cap] 78 (0,0)):=cf;rw[Y' this];rfl
  have hSD:(Builtin.unsafeSliceData_ #[74] 145 #[.slice (some ⟨g,0,none⟩) l.length cap]).run prog w.drew= .ok (.pointer (some ⟨g,0,none⟩)) w.drew:=
   Lib.run_unsafeSliceData_row _ _ _ _ _ _ aa
  have bV:w.ownsRow 0 5 1 (.slice (some ⟨g,0,none⟩) l.length cap) l.length (Zi l):=⟨hl,.inr ⟨g,cap,cur,rfl,XD _,hg,Ls,JS,eV,VT⟩⟩;have hUS:(Builtin.unsafeString_ #[145,3] 9 #[.pointer (some ⟨g,0,none⟩),.int .i64 l.length]).run prog w.drew= .ok (.string ⟨l.toArray⟩) (w.drew.freeze ⟨g,0,none⟩ l.length):=by
   refine Lib.run_unsafeString_row w.drew 145 3 9 5 underlying145 lx g cur.size (by have hg':w.drew.heap[g]? =some (.cells cur 5 (0,0)):=hg;simp[World.shape?,hg']) l h0 aa (by unfold maxLen at JS;omega) ?_;intro j x hx;exact bV.cells (g:=g) rfl j (.int .u8 x.toNat) (by simp[Zi,hx])
  have hfz:OneB w (w.drew.freeze ⟨g,0,none⟩ l.length) (di (.slice (some ⟨g,0,none⟩) l.length cap)):=by
   rw[cR JV];unfold World.freeze;split
   ·exact⟨rfl,rfl,rfl,Xz _,fun _ _ _=>rfl⟩
   ·refine⟨rfl,rfl,rfl,by simp,fun k hk bH=>?_⟩;simp only[Y3];rw[af (fun e=>bH (by rw[<-e]))];rfl
  clear bV cf hg;have am:prog.follows .mixedOrders=true:=aJ;go_enter func35,ntmps35
  go_wp2
  go_region_o
  all_goals(go_wp2;go_ret;exact⟨rfl,hfz⟩)
end
def bs (l:List UInt8):ByteArray:=⟨l.toArray⟩
theorem iG (l:List UInt8):(bs l).size=l.length:=by simp[bs,ByteArray.size]
theorem Lj (l:List UInt8):(bs l).data.toList=l:=rfl
theorem a1p (s:ByteArray):bs s.data.toList=s:=rfl
theorem ph (l m:List UInt8):bs l++bs m=bs (l++m):=by
 apply ZV;simp[bs]
@[go_sem] theorem a2u (xs:List Int):strOfNums xs=bs (xs.map fun n=>UInt8.ofNat n.toNat):=rfl
def dS (n:Nat):List UInt8:=Lib.decDigits n
theorem Ht {n:Nat}(h:n < 10):dS n=[UInt8.ofNat (48+n)]:=Lib.decDigits_one h
theorem UV {n:Nat}(h:¬n < 10):dS n=dS (n / 10)++[UInt8.ofNat (48+n % 10)]:=by
 unfold dS;rw[Lib.decDigits,dif_neg h]
theorem sQ:∀n:Nat,n<=9223372036854775807->(dS n).length<=19:=by
 have key:∀k n:Nat,n < 10 ^ (k+1)->(dS n).length<=k+1:=by
  intro k;induction k with
  |zero=>intro n h;rw[Ht (by simpa using h)];simp
  |succ k ih=>
   intro n h;by_cases h1:n < 10
   ·rw[Ht h1];simp
   ·rw[UV h1,Xv];have:=ih (n / 10) (by rw[Nat.pow_succ]at h;omega);simp;omega
 intro n h;exact key 18 n aa
section
open Go.Proofs Go.Shelf
theorem RH (w:World)(k:Nat)(os:Array Obj):cM w (Sort.grow (w.drewN k) os):=by
 refine⟨rfl,rfl,rfl,?_,fun b hb=>?_⟩
 ·rw[Sort.size_grow];simp
 ·rw[Sort.heap_grow_old _ _ (by simpa using hb)];rfl
theorem RI {M:Nat->Prop}{w:World}(h:AU M w):Lib.TabIs prog w "internal/strconv.uint64pow10" .u64 Lib.pow10Tab:=by
 obtain⟨-,vs,E,sp,h2,h3⟩:=h (OR,_) (by unfold Td;exact List.mem_cons_self ..);unfold Lib.TabIs World.var?;rw[show prog.globalNamed "internal/strconv.uint64pow10"=some OR by kernel_rfl];simp only[Y0,h2];rw[h3];rfl
theorem UW {P:Program}{f:Nat}{ds:List D}{r:D}(hn:yp P f)(hf:∀d∈ds,d.flat=true)(h:∀M w,AU M w->Calls P f (ds.map FK).toArray w fun e w'=>∃v,e= .returned v/\RepD M w' r v/\cM w w'):ai P f ds r:=by
 refine⟨hn,fun M w vs _ hG dP=>?_⟩;rw[p8 (f:=FK) dP.1 fun j d x hj hx=>FL (dP.2 j d x hj hx) (hf d (Xl hj))];exact h M w hG
theorem Ek (n:Nat)(hn:n<=9223372036854775807):ai prog 65 [.v (.int .i64 n)] (.v (.string (bs (dS n)))):=by
 refine UW (bY func65 aJ rfl) (by simp[D.flat]) fun M w hG=>?_;refine(strconv_Itoa n aa aa w (RI hG)).mono fun e w' ⟨he,k,os,hw⟩=>⟨_,he,?_,by rw[hw];exact RH _ _ _⟩;rw[Lib.itoa_nonneg];exact .v _
end
theorem a5M {p:Prop}(h:p:=by
 cases hj;cases hx;exact .v _):p:=h
theorem a6f {p:Prop}(h:p:=by
 exact El r4 rfl fun k=>by match k with|0=>rfl|1=>rfl|k+2=>rfl):p:=h
section
open Go.Proofs
def d8 (l:List UInt8):List (List D):=l.map fun b=>[.v (.int .u8 b.toNat)]
abbrev jB (l:List UInt8):List (List PV):=ab (d8 l)
theorem vM (l:List UInt8):(jB l).length=l.length:=by simp[jB,ab,d8]
theorem Ak (l:List UInt8):(jB l).flatten=(l.map fun b=>D.v (.int .u8 b.toNat)).map .d:=by
 induction l with
 |nil=>rfl
 |cons a l ih=>
  have:jB (a::l)=[.d (.v (.int .u8 a.toNat))]::jB l:=rfl;rw[this,YL,ih];rfl
theorem RJ {c:Cx}{w:World}{l:List UInt8}{xs:List Value}(h:bI c w (jB l).flatten xs):xs=Zi l:=by
 rw[Ak]at h;have h2:=yk h;apply Yj;intro j;unfold Zi;rw[Xy];cases hl:l[j]? with
 |none=>
  have:=h2.1;rw[XB]at this;rw[XR (by rw[<-this];simpa using hl)];rfl
 |some u=>
  have hlt:j < xs.length:=by have:=h2.1;rw[XB]at this;rw[<-this];exact(Xn.1 hl).1
  have:=h2.2 j (.v (.int .u8 u.toNat)) xs[j] (by rw[Xy,hl];rfl) (Xk hlt);rw[Xk hlt];generalize xs[j]=y at this;cases this;rfl
theorem CX {c:Cx}{w:World}(l:List UInt8):bI c w (jB l).flatten (Zi l):=by
 rw[Ak];refine qN ⟨by simp[Zi],fun j d x hj hx=>?_⟩;unfold Zi at hx;rw[Xy]at hj hx;cases hl:l[j]? with
 |none=>rw[hl]at hj;cases hj
 |some u=>rw[hl]at hj hx;cases hj;cases hx;exact .v _
theorem Hu (l:List UInt8):∀r∈jB l,r.length=1:=fun r hr=>by
 obtain⟨q,hq,rfl⟩:=XN.1 hr;obtain⟨u,-,rfl⟩:=XN.1 hq;rfl
theorem CY (l:List UInt8):∀r∈jB l,∀d∈r,d.one=true:=fun r hr d hd=>by
 obtain⟨q,hq,rfl⟩:=XN.1 hr;obtain⟨u,-,rfl⟩:=XN.1 hq;simp at hd;subst hd;rfl
theorem a1q {s:FS}{H:List Chunk}(h1:s.env=fF [])(h2:∀k,s.heap k=aD H k):s=bS [] H:=by
 cases s;simp only[bS,FS.mk.injEq]at*;exact⟨h1,funext h2⟩
theorem El {X:Cfg}{s:FS}{H:List Chunk}{a:Act}{w:World}{c:Cx}(h:RealC X s a w c)(h1:s.env=fF [])(h2:∀k,s.heap k=aD H k):RealC X (bS [] H) a w c:=a1q h1 h2 ▸ h
structure Pap (c:Cx)(w:World)(g:Nat)(ad:PV)(l:List UInt8)(b:Nat)(adv v:Value):Prop where
 bl:c.bl 0=some b
 hh:w.heap[b]? =some (.cells #[adv,v] 78 (0,0))
 ov:c.ov 1 g=some v
 own:OwnV w 5 1 v l.length (Zi l)
 adr:RepP c w ad adv
 ne:di v≠some b
theorem RL {X:Cfg}{w:World}{c:Cx}{g:Nat}{ad:PV}{l:List UInt8}(h:RealC X (bS [] [.box 78 [ad,.own 1 g],.row 5 1 g (jB l)]) Mg w c):∃b adv v,Pap c w g ad l b adv v:=by
 have h0:=h.chunk 0;have h1:=h.chunk 1;cases h0 with
 |box _ _ b vs hb hh hr h1'=>
  cases h1 with
  |row _ _ _ _ v xs hv bj oG cL h1o hg=>
   obtain⟨adv,HE⟩:∃u,vs[0]? =some u:=⟨_,Xk (by rw[<-hr.1];simp)⟩;obtain⟨v1,ry⟩:∃u,vs[1]? =some u:=⟨_,Xk (by rw[<-hr.1];simp)⟩;have ha:=hr.2 0 _ _ rfl HE;have ho:=hr.2 1 _ _ rfl ry;have vX:vs=[adv,v1]:=by
    match vs,hr.1,HE,ry with
    |[a,b],_,h0,h1=>cases h0;cases h1;rfl
   subst vX;cases ho with
   |own _ _ _ ep _=>
    rw[hv]at ep;cases ep;have hx:=RJ oG;subst hx;rw[vM]at bj;refine⟨b,adv,v,⟨hb,hh,hv,bj,ha,fun e=>?_⟩⟩;have:=h.apart 0 1 b hb (by show Cx.block c 1 (.row _ _ _ _)=_;simp only[Cx.block,hv];exact e);cases this
theorem Bl (g:Nat)(ad:PV)(l t:List UInt8)(xa:ad= .d (.v (.pointer none))\/ad= .ptr 0 0)(bB:l.length+t.length<=140737488355328):
 MSpec prog 63 [.ptr 0 0,.d (.v (.string (bs t)))] [.box 78 [ad,.own 1 g],.row 5 1 g (jB l)] (.d (.tup [.v (.int .i64 t.length),.v .nilIface]))
  [.box 78 [.ptr 0 0,.own 1 (g+1)],.row 5 1 (g+1) (jB (l++t))]:=by
 refine⟨bY func63 aJ rfl,Xz _,rfl,?_,fun X hP hn hm w c vs hR dP=>?_⟩
 ·rcases xa with rfl|rfl<;>simp[aH,aR,aq,au,jB,aC]
 obtain⟨b,adv,v,hp⟩:=RL hR;obtain⟨v1,ry⟩:∃u,vs[0]? =some u:=⟨_,Xk (by rw[<-dP.1];simp)⟩;obtain⟨v2,Od⟩:∃u,vs[1]? =some u:=⟨_,Xk (by rw[<-dP.1];simp)⟩;have ha:=dP.2 0 _ _ rfl ry;have hb:=dP.2 1 _ _ rfl Od;have vX:vs=[v1,v2]:=by
  match vs,dP.1,ry,Od with
  |[a,b],_,h0,h1=>cases h0;cases h1;rfl
 subst vX;clear ry Od;cases ha with
 |ptr _ _ b' hb'=>
  rw[hp.bl]at hb';cases hb';cases hb with
  |d _ _ hd=>
   cases hd;have a3f:∃ao,adv= .pointer ao/\(ao=none\/ao=some ⟨b,0,none⟩):=by
    have:=hp.adr;rcases xa with rfl|rfl
    ·cases this with
     |d _ _ h=>cases h;exact⟨_,rfl,.inl rfl⟩
    ·cases this with
     |ptr _ _ b' hb'=>rw[hp.bl]at hb';cases hb';exact⟨_,rfl,.inr rfl⟩
   obtain⟨ao,rfl,hao⟩:=a3f;refine(px b ao v l.length (Zi l) (bs t) w hp.hh hao hp.own hp.ne (by rw[iG];exact bB)).mono ?_;rintro e w' ⟨rfl,v',w2,dL,cV,Oy,rfl⟩;rw[iG]at cV ⊢;have r1:=hR.set_box (k:=0) (T:=78) (cells:=[ad,.own 1 g]) (cells':=[.ptr 0 0,.own 1 g]) (vs:=[.pointer ao,v]) (vs':=[.pointer (some ⟨b,0,none⟩),v]) rfl hp.bl hp.hh
    ⟨rfl,fun j d x hj hx=>by
     match j with
     |0=>cases hj;cases hx;exact .ptr 0 0 b hp.bl
     |1=>cases hj;cases hx;exact .own 1 g v hp.ov hp.own.one
     |j+2=>simp at hj⟩ (by intro d hd;simp at hd;rcases hd with rfl|rfl<;>rfl)
   obtain⟨c',r2,r3⟩:=r1.set_row (k:=1) (E:=5) (sz:=1) (g:=g) (rows:=jB l) (rows':=jB (l++t)) (v:=v) (v':=v') (xs':=Zi l++Zp (bs t)) rfl hp.ov dL (by rw[vM,Xv];exact cV) Oy
    (by rw[Lib.strCells_eq,Lj,<-Lib.byteCells_append];exact CX _) (Hu _) (CY _)
   have SF:c'.bl 0=some b:=by rw[(r2.lent 0 (by rw[hm];exact ZX _)).1,<-(hR.lent 0 (by rw[hm];exact ZX _)).1];exact hp.bl
   have hlt:b < (w.setRow b #[.pointer (some ⟨b,0,none⟩),v]).heap.size:=by
    rcases XM b (w.setRow b #[.pointer (some ⟨b,0,none⟩),v]).heap.size with h|h
    ·exact h
    ·have:=setRow_heap w b _ #[.pointer (some ⟨b,0,none⟩),v] _ _ hp.hh;rw[Yo h]at this;cases this
   have iO:w2.heap[b]? =some (.cells #[.pointer (some ⟨b,0,none⟩),v] 78 (0,0)):=by
    rw[dL.block b hlt hp.ne];exact setRow_heap w b _ _ _ _ hp.hh
   have r4:=r2.set_box (k:=0) (T:=78) (cells:=[.ptr 0 0,.own 1 g]) (cells':=[.ptr 0 0,.own 1 (g+1)]) (vs:=[.pointer (some ⟨b,0,none⟩),v]) (vs':=[.pointer (some ⟨b,0,none⟩),v']) rfl SF iO
    ⟨rfl,fun j d x hj hx=>by
     match j with
     |0=>cases hj;cases hx;exact .ptr 0 0 b SF
     |1=>cases hj;cases hx;exact r3
     |j+2=>simp at hj⟩ (by intro d hd;simp at hd;rcases hd with rfl|rfl<;>rfl)
   refine⟨_,c',rfl,.d _ _ (.tup _ [_,_] rfl fun j d x hj hx=>?_),?_⟩
   ·match j with
    |0=>exact a5M
    |1=>exact a5M
    |j+2=>simp at hj
   ·exact a6f
theorem RM (g:Nat)(l:List UInt8)(h0:l≠[]):
 MSpec prog 35 [.ptr 0 0] [.box 78 [.ptr 0 0,.own 1 g],.row 5 1 g (jB l)] (.d (.v (.string (bs l)))) [.gone,.gone]:=by
 refine⟨bY func35 aJ rfl,Xz _,rfl,by simp[aH,aR,aq,au,jB,aC],fun X hP hn hm w c vs hR dP=>?_⟩;obtain⟨b,adv,v,hp⟩:=RL hR;obtain⟨v1,ry⟩:∃u,vs[0]? =some u:=⟨_,Xk (by rw[<-dP.1];simp)⟩;have ha:=dP.2 0 _ _ rfl ry;have vX:vs=[v1]:=by
  match vs,dP.1,ry with
  |[a],_,h0=>cases h0;rfl
 subst vX;cases ha with
 |ptr _ _ b' hb'=>
  rw[hp.bl]at hb';cases hb';refine(JH b adv v l w hp.hh hp.own h0).mono ?_;rintro e w' ⟨rfl,ho⟩;have cz:c.block 1 ((bS [] [.box 78 [.ptr 0 0,.own 1 g],.row 5 1 g (jB l)]).heap 1)=di v:=by
   show Cx.block c 1 (.row _ _ _ _)=_;simp only[Cx.block,hp.ov];rfl
  have r1:=hR.turn (w':=w') (c':={c with M:=fun b=>c.M b/\di v≠some b}) (k:=1) (ch:= .gone) ⟨fun _ _ h=>h,fun _ _ _ h=>h⟩ rfl (fun _ _=>rfl) (fun _ _=>rfl) ho.os ho.tape ho.output ho.size
   (fun b hb bH=>ho.block b hb (by rw[<-cz];exact bH)) (fun b=>by rw[cz];simp[Cx.block]) (fun b hb=>by simp[Cx.block]at hb) (fun _=> .gone)
  have r2:=r1.freeze [0];exact⟨_,_,rfl,.d _ _ (.v _),El r2 rfl fun k=>by match k with|0=>rfl|1=>rfl|k+2=>rfl⟩
theorem RN {M:Nat->Prop}{w:World}{ws:List (List UInt8)}(h0:ws≠[]){v:Value}(h:RepD M w (.sl 1 (ws.map fun x=>[.v (.string (bs x))])) v):∃b o cap,v= .slice (some ⟨b,o,none⟩) ws.length cap/\b < w.heap.size/\ws.length<=cap/\∀j x,ws[j]? =some x->w.cell? ⟨b,o+j,none⟩=some (.string (bs x)):=by
 generalize hr:ws.map (fun x=>[D.v (.string (bs x))])=rows at h;have hl:ws.length=rows.length:=by rw[<-hr];simp
 cases h with
 |nil=>exact absurd (X4 (by simpa using hl)) h0
 |sl _ _ b off cap f hM hb hc hm hr' h1 ck bC=>
  refine⟨b,off,cap,by rw[hl],hb,by omega,fun j x hj=>?_⟩;have hlt:j < rows.length:=by rw[<-hl];exact(Xn.1 hj).1
  have bV:rows[j]? =some [.v (.string (bs x))]:=by rw[<-hr,Xy,hj];rfl
  have:=ck j 0 hlt aa;rw[Nat.mul_one,XT]at this;rw[this,nD (bC j 0 _ _ bV rfl)]
theorem Xa (ws:List (List UInt8))(sep:List UInt8)(h0:ws≠[])(hn:ws.length<=140737488355328)(hl:(G' ws sep).length<=140737488355328):ai prog 64 [.sl 1 (ws.map fun x=>[.v (.string (bs x))]),.v (.string (bs sep))] (.v (.string (bs (G' ws sep)))):=by
 refine⟨bY func64 aJ rfl,fun M w vs hM hG dP=>?_⟩;obtain⟨v,vs,rfl,h1,dP⟩:=dQ dP;obtain⟨u,vs,rfl,h2,dP⟩:=dQ dP;rw[jr dP,nD h2];obtain⟨b,o,cap,rfl,hb,hc,ck⟩:=RN h0 h1;have hm:(ws.map bs).map (·.data.toList)=ws:=by rw[Z6];exact List.map_id _
 have:=strings_Join b o cap (ws.map bs) (bs sep) w (fun j x hj=>by
  rw[Xy]at hj;simp only[XJ]at hj;obtain⟨y,hy,rfl⟩:=hj;exact ck j y hy) hb (by simpa using hn) (by simpa using hc) (by rw[hm];exact hl)
 rw[hm,XB]at this;exact this.mono fun e w' ⟨he,hw⟩=>⟨_,he,.v _,hw⟩
theorem a1r (n:Nat)(hn:n<=9223372036854775807):ai prog 32 [.v (.int .i64 n)] (.v (.string (bs (dS n)))):=by
 have h:=Ek n hn;generalize bs (dS n)=T at*;refine pj func32 ntmps32 results32 ?_;exact bc
end
def gJ (p:Pfx):List UInt8:=dS (p.at_.toNat / 256)++(46::(dS (p.at_.toNat % 256)++(47::dS p.len.toNat)))
def Hv (p:Pfx):List UInt8 × Int:=if chk p.at_ p.len≠0 then ([],chk p.at_ p.len)else (gJ p,0)
theorem JI {p:Pfx}(hr:p.right=true):0<=p.at_/\p.at_<=65535/\0<=p.len/\p.len<=16:=by
 obtain⟨b1,b2,b3,b4,-⟩:=p.bd hr;exact⟨b3,b4,b1,b2⟩
theorem RO (a b c:List UInt8):bs (a++(46::(b++(47::c))))=(((bs a++bs [46])++bs b)++bs [47])++bs c:=by
 rw[ph,ph,ph,ph];congr 1;simp
theorem Xb (p:Pfx):ai prog 133 [.agg (aS p)] (.tup [.v (.string (bs (Hv p).1)),.v (.int .i64 (Hv p).2)]):=by
 have bp:=qU p;unfold Hv;by_cases hc:chk p.at_ p.len=0
 ·rw[af (by simpa using hc)];have hr:p.right=true:=by simp[Pfx.right,bF,hc]
  obtain⟨h1,h2,h3,h4⟩:=JI hr;rw[hc]at bp;clear hc;obtain⟨x,hx⟩:∃x:Nat,p.at_=x:=⟨p.at_.toNat,by omega⟩;obtain⟨z,hz⟩:∃z:Nat,p.len=z:=⟨p.len.toNat,by omega⟩;have i1:=Ek (x / 256) aa;have i2:=Ek (x % 256) aa;have i3:=Ek z aa;have ha:p.at_.fdiv (2 ^ min 8 64)=((x / 256:Nat):Int):=by
   have e:(2:Int) ^ min 8 64=256:=mR;rw[e,hx,ZZ _ aa];omega
  have hb:IntKind.i64.wrap ((BitVec.ofInt IntKind.i64.bits p.at_&&& BitVec.ofInt IntKind.i64.bits 255).toNat:Int)=((x % 256:Nat):Int):=by
   have e:(BitVec.ofInt 64 p.at_&&& BitVec.ofInt 64 255).toNat=x % 256:=by
    have e1:((x:Int) % ((2 ^ 64:Nat):Int)).toNat=x:=aa;have e2:((255:Int) % ((2 ^ 64:Nat):Int)).toNat=2 ^ 8 - 1:=mR;rw[hx,BitVec.toNat_and,BitVec.toNat_ofInt,BitVec.toNat_ofInt,e1,e2,Nat.and_two_pow_sub_one_eq_mod]
   show IntKind.i64.wrap ((BitVec.ofInt 64 p.at_&&& BitVec.ofInt 64 255).toNat:Int)=_;rw[e,IntKind.wrap_i64];omega
  have l1:=sQ (x / 256) aa;have l2:=sQ (x % 256) aa;have l3:=sQ z aa;have ht:gJ p=dS (x / 256)++(46::(dS (x % 256)++(47::dS z))):=by unfold gJ;rw[hx,hz];rfl
  rw[ht,RO];have s1:(bs (dS (x / 256))).size+(bs [46]).size<=9223372036854775807:=by simp only[iG];simp;omega
  have s2:(bs (dS (x / 256))++bs [46]).size+(bs (dS (x % 256))).size<=9223372036854775807:=by simp only[ph,iG];simp;omega
  have s3:((bs (dS (x / 256))++bs [46])++bs (dS (x % 256))).size+(bs [47]).size<=9223372036854775807:=by simp only[ph,iG];simp;omega
  have s4:(((bs (dS (x / 256))++bs [46])++bs (dS (x % 256)))++bs [47]).size+(bs (dS z)).size<=9223372036854775807:=by simp only[ph,iG];simp;omega
  simp only[ZD]at s2 s3 s4;clear ht hr h1 h2 h3 h4;rw[<-hz]at i3;replace hx:=Xj hx;replace hz:=Xj hz;generalize bs (dS (x / 256))=t1 at*;generalize bs (dS (x % 256))=t2 at*;generalize bs (dS z)=t3 at*;have c1:Y2 #[46]=bs [46]:=rfl;have c2:Y2 #[47]=bs [47]:=rfl;refine pj func133 ntmps133 results133 ?_;exact bc;all_goals exact dg
 ·rw[aj hc];have h1:(chk p.at_ p.len !=0)=true:=by simpa using hc
  generalize chk p.at_ p.len=E at*;refine pj func133 ntmps133 results133 ?_;exact bc;all_goals exact dg
theorem a5O {p:Prop}(h:p:=by
 refine mj func31 ntmps31 results31 ?_;refine ap ?_;exact bn rfl rfl):p:=h
@[go_sem] def Al (x:List UInt8):List D:=[.v (.string (bs x))]
def uj (x:List UInt8):List PV:=[.d (.v (.string (bs x)))]
theorem Em (ws:List (List UInt8)):ws.map uj=ab (ws.map Al):=by simp[ab,Al,uj]
def dW (ws:List (List UInt8)):List UInt8:=G' ws [32]++[10]
theorem RP (g:Nat)(ws:List (List UInt8))(sep:List UInt8)(h0:ws≠[])(hn:ws.length<=140737488355328)(hl:(G' ws sep).length<=140737488355328):
 MSpec prog 64 [.own 0 g,.d (.v (.string (bs sep)))] [.row 9 1 g (ws.map uj)] (.d (.v (.string (bs (G' ws sep))))) [.gone]:=by
 rw[Em];exact vm (Xa ws sep h0 hn hl) rfl (by simp[aH,aR,aC]) (by simp[vw,cI,bx,aD,eO];intros;rfl) (by simp[tc,j3,cY,aD,oO])
theorem pi (g gw:Nat)(ad:PV)(l:List UInt8)(ws:List (List UInt8))(xa:ad= .d (.v (.pointer none))\/ad= .ptr 0 0)(h0:ws≠[])(hn:ws.length<=1000)(bB:l.length+(dW ws).length<=1000000000):
 MSpec prog 31 [.ptr 0 0,.own 2 gw] [.box 78 [ad,.own 1 g],.row 5 1 g (ab (d8 l)),.row 9 1 gw (ws.map uj)] (.d (.tup []))
  [.box 78 [.ptr 0 0,.own 1 (g+1)],.row 5 1 (g+1) (ab (d8 (l++dW ws))),.gone]:=by
 have xV:(dW ws).length=(G' ws [32]).length+1:=by simp[dW]
 have hj:=Ln.mk (ls:=[2]) (RP gw ws [32] h0 aa aa);have hw:=Ln.mk (ls:=[0,1]) (Bl g ad l (dW ws) xa aa);have c1:Y2 #[32]=bs [32]:=rfl;have c2:Y2 #[10]=bs [10]:=rfl;have e:bs (G' ws [32])++bs [10]=bs (dW ws):=ph _ _;have hs:(bs (G' ws [32])).size+(bs [10]).size<=9223372036854775807:=by rw[iG,iG];simp;omega
 rw[Em]at*;unfold jB at*;generalize ws.map Al=W at*;generalize bs (G' ws [32])=J at*;generalize bs [32]=B at*;generalize bs [10]=N at*;generalize d8 (l++dW ws)=R2 at*;generalize d8 l=R1 at*;generalize bs (dW ws)=T at*;clear h0 hn bB xV;rcases xa with rfl|rfl
 ·exact a5O
 ·exact a5O
def Nn (n:Int):Prop:=0<=n/\n<=9223372036854775807
def dN (n:Int):List UInt8:=dS n.toNat
theorem lv (n:Int)(h:Nn n):ai prog 32 [.v (.int .i64 n)] (.v (.string (bs (dN n)))):=by
 have:=a1r n.toNat (by have:=h.2;omega);rw[show ((n.toNat:Nat):Int)=n by have:=h.1;omega]at this;exact this
theorem xR (p:Pfx)(h:p.right=true):ai prog 66 [.agg (aS p)] (.v (.string (bs (gJ p)))):=by
 have h1:=Xb p;have h2:Hv p=(gJ p,0):=by unfold Hv;rw[af (by simpa[Pfx.right,bF]using h)]
 rw[h2]at h1;dsimp only at h1;generalize bs (gJ p)=T at*;clear h2 h;refine pj func66 ntmps66 results66 ?_;exact bc
def Am:List UInt8:=[112,111,111,108]
def Xc:List UInt8:=[117,112]
def An:List UInt8:=[117,115,101,114]
def Ao:List UInt8:=[110,101,115,116]
def Ap:List UInt8:=[99,111,111,108]
def pk (x:Lse):List UInt8:=if x.kind=1 then dW [An,dN x.owner,gJ x.at_]else if x.kind=2 then dW [Ao,dN x.owner,gJ x.at_]else dW [Ap,dN x.till,gJ x.at_]
def qy (p:Pol):List UInt8:=dW [Am,dN p.id,Xc,dN p.up,gJ p.root]++p.leases.flatMap pk
structure LseT (x:Lse):Prop where
 at_:x.at_.right=true
 kind:x.kind=1\/x.kind=2\/x.kind=3
 owner:Nn x.owner
 till:Nn x.till
structure PolT (p:Pol):Prop where
 id:Nn p.id
 up:Nn p.up
 root:p.root.right=true
 n:p.leases.length<=1000
 ls:∀x∈p.leases,LseT x
theorem pm {α:Type}{l:List α}{k:Nat}{x:α}(h:l[k]? =some x)(f:α->List UInt8):(l.take (k+1)).flatMap f=(l.take k).flatMap f++f x:=by
 rw[ak h,YN];simp
theorem Aq {α:Type}(l:List α)(k:Nat)(f:α->List UInt8):((l.take k).flatMap f).length<=(l.flatMap f).length:=by
 conv=>rhs;rw[<-YK k l,YN,Xv]
 omega
theorem Xd (g:Nat)(l:List UInt8)(p:Pol)(hp:PolT p)(bB:l.length+(qy p).length<=1000000000):
 MSpec prog 33 [.ptr 0 0,.d (.agg (an p))] [.box 78 [.ptr 0 0,.own 1 g],.row 5 1 g (ab (d8 l))] (.d (.tup []))
  [.box 78 [.ptr 0 0,.own 1 (g+1+p.leases.length)],.row 5 1 (g+1+p.leases.length) (ab (d8 (l++qy p)))]:=by
 have i1:=lv p.id hp.id;have i2:=lv p.up hp.up;have s1:=xR p.root hp.root;have hn:=hp.n;obtain⟨L0,EQ⟩:∃L0,L0=l++dW [Am,dN p.id,Xc,dN p.up,gJ p.root]:=⟨_,rfl⟩;have hT:l++qy p=L0++p.leases.flatMap pk:=by rw[EQ];unfold qy;rw[XV]
 have bN:L0.length+(p.leases.flatMap pk).length<=1000000000:=by rw[<-Xv,<-hT,Xv];exact bB
 have hl:=Ln.mk (ls:=[0,1,3]) (pi g 0 (.ptr 0 0) l [Am,dN p.id,Xc,dN p.up,gJ p.root] (.inr rfl) ah ah (by rw[<-Xv,<-EQ];omega));rw[<-EQ]at hl;rw[hT];simp only[Xm,Xr,uj]at hl;have c1:Y2 #[112,111,111,108]=bs Am:=rfl;have c2:Y2 #[117,112]=bs Xc:=rfl;have xB:=hp.ls;generalize bs Am=B1 at*;generalize bs Xc=B2 at*;generalize bs (dN p.id)=B3 at*;generalize bs (dN p.up)=B4 at*;generalize bs (gJ p.root)=B5 at*;clear hp bB hT;replace EQ:=Xj EQ;replace xB:=Xj xB;refine mj func33 ntmps33 results33 ?_;refine ap ?_;refine bf ag am p.leases (fun _=>True) (fun k=>[(21,.d (.v (.int .i64 k))),(20,.d (.v (.int .i64 p.leases.length))),(19,.d (.sl 5 (p.leases.map bt))),(0,.ptr 0 0)])
  (fun k=>[.box 78 [.ptr 0 0,.own 1 (g+1+k)],.row 5 1 (g+1+k) (ab (d8 (L0++(p.leases.take k).flatMap pk)))]) trivial ?_ ?_ ?_
 ·simp only[Zb,ZE,Yi];exact wf
 ·intro k x hx hk _ C hC;have eo:(k:Int) < (p.leases.length:Int):=aa;have db:=wi k aa;have SG:=xB.out x (Xl hx);have mY:=pm hx pk;have hle:=Aq p.leases (k+1) pk;rw[mY,Xv]at hle;have i3:=lv x.owner SG.owner;have i4:=lv x.till SG.till;have s2:=xR x.at_ SG.at_;have hkd:=SG.kind;clear SG i1 i2 s1 hl c1 c2;obtain⟨L1,qG⟩:∃L1,L1=L0++(p.leases.take k).flatMap pk:=⟨_,rfl⟩;have nJ:L1.length+(pk x).length<=1000000000:=by rw[qG,Xv];omega
  rw[<-qG];have cp:L0++(p.leases.take (k+1)).flatMap pk=L1++pk x:=by rw[mY,qG,XV]
  replace cp:=Xj cp;replace qG:=Xj qG;clear mY hle bN;rcases hkd with hkd|hkd|hkd
  ·have HN:pk x=dW [An,dN x.owner,gJ x.at_]:=by unfold pk;rw[aj hkd]
   have hl:=Ln.mk (ls:=[0,1,3]) (pi (g+1+k) 0 (.ptr 0 0) L1 [An,dN x.owner,gJ x.at_] (.inr rfl) ah ah (by rw[<-HN];exact nJ));rw[<-HN]at hl;simp only[Xm,Xr,uj]at hl;have c1:Y2 #[117,115,101,114]=bs An:=rfl;generalize bs An=B1 at*;generalize bs (dN x.owner)=B2 at*;generalize bs (gJ x.at_)=B3 at*;replace HN:=Xj HN;clear nJ;refine ap ?_;refine hC _ _ trivial ?_;rw[cp.out];exact wf
  ·have HN:pk x=dW [Ao,dN x.owner,gJ x.at_]:=by unfold pk;rw[af aa,aj hkd]
   have hl:=Ln.mk (ls:=[0,1,3]) (pi (g+1+k) 0 (.ptr 0 0) L1 [Ao,dN x.owner,gJ x.at_] (.inr rfl) ah ah (by rw[<-HN];exact nJ));rw[<-HN]at hl;simp only[Xm,Xr,uj]at hl;have c1:Y2 #[110,101,115,116]=bs Ao:=rfl;generalize bs Ao=B1 at*;generalize bs (dN x.owner)=B2 at*;generalize bs (gJ x.at_)=B3 at*;replace HN:=Xj HN;clear nJ;refine ap ?_;refine hC _ _ trivial ?_;rw[cp.out];exact wf
  ·have HN:pk x=dW [Ap,dN x.till,gJ x.at_]:=by unfold pk;rw[af aa,af aa]
   have hl:=Ln.mk (ls:=[0,1,3]) (pi (g+1+k) 0 (.ptr 0 0) L1 [Ap,dN x.till,gJ x.at_] (.inr rfl) ah ah (by rw[<-HN];exact nJ));rw[<-HN]at hl;simp only[Xm,Xr,uj]at hl;have c1:Y2 #[99,111,111,108]=bs Ap:=rfl;generalize bs Ap=B1 at*;generalize bs (dN x.till)=B2 at*;generalize bs (gJ x.at_)=B3 at*;replace HN:=Xj HN;clear nJ;refine ap ?_;refine hC _ _ trivial ?_;rw[cp.out];exact wf
 ·intro _ C;rw[Xq];refine ap ?_;exact bn rfl rfl
def JJ:List UInt8:=[110,101,116]
def vN:List UInt8:=[114,97,110,103,101]
def JK:List UInt8:=[115,117,98]
def qz:List UInt8:=[102,97,99,101]
def vO (r:Rng):List UInt8:=dW [vN,gJ r.at_,dN r.pool]
def sR (f:Fce):List UInt8:=dW (qz::dN f.id::f.addrs.map dN)
def uk (s:Sbn):List UInt8:=dW [JK,dN s.id,gJ s.at_]++s.faces.flatMap sR
def qA (v:Vpc):List UInt8:=dW [JJ,dN v.id]++v.ranges.flatMap vO++v.subs.flatMap uk
structure FceT (f:Fce):Prop where
 id:Nn f.id
 n:f.addrs.length<=90
 ad:∀a∈f.addrs,Nn a
structure SbnT (s:Sbn):Prop where
 id:Nn s.id
 at_:s.at_.right=true
 n:s.faces.length<=1000
 fc:∀f∈s.faces,FceT f
structure VpcT (v:Vpc):Prop where
 id:Nn v.id
 nr:v.ranges.length<=1000
 rg:∀r∈v.ranges,r.at_.right=true/\Nn r.pool
 ns:v.subs.length<=1000
 sb:∀s∈v.subs,SbnT s
def gS (l:List Sbn):Nat:=(l.map fun s=>1+s.faces.length).sum
theorem UX {l:List Sbn}{k:Nat}{x:Sbn}(h:l[k]? =some x):gS (l.take (k+1))=gS (l.take k)+1+x.faces.length:=by
 unfold gS;rw[ak h,Xo,List.sum_append];simp;omega
theorem Xe (g:Nat)(l:List UInt8)(v:Vpc)(hp:VpcT v)(bB:l.length+(qA v).length<=1000000000):
 MSpec prog 34 [.ptr 0 0,.d (.agg (ax v))] [.box 78 [.ptr 0 0,.own 1 g],.row 5 1 g (ab (d8 l))] (.d (.tup []))
  [.box 78 [.ptr 0 0,.own 1 (g+1+v.ranges.length+gS v.subs)],.row 5 1 (g+1+v.ranges.length+gS v.subs) (ab (d8 (l++qA v)))]:=by
 have i1:=lv v.id hp.id;have S0:=hp.nr;have hns:=hp.ns;have hrg:=Xj hp.rg;have rU:=Xj hp.sb;obtain⟨L0,EQ⟩:∃L0,L0=l++dW [JJ,dN v.id]:=⟨_,rfl⟩;obtain⟨L9,hL9⟩:∃L9,L9=L0++v.ranges.flatMap vO:=⟨_,rfl⟩;have hT:l++qA v=L9++v.subs.flatMap uk:=by rw[hL9,EQ];unfold qA;simp only[XV]
 have bN:L9.length+(v.subs.flatMap uk).length<=1000000000:=by rw[<-Xv,<-hT,Xv];exact bB
 have SH:L0.length+(v.ranges.flatMap vO).length<=1000000000:=by rw[hL9,Xv]at bN;omega
 have hl:=Ln.mk (ls:=[0,1,3]) (pi g 0 (.ptr 0 0) l [JJ,dN v.id] (.inr rfl) ah ah (by rw[<-Xv,<-EQ];omega));rw[<-EQ]at hl;rw[hT];simp only[Xm,Xr,uj]at hl;have c1:Y2 #[110,101,116]=bs JJ:=rfl;generalize bs JJ=B1 at*;generalize bs (dN v.id)=B3 at*;clear hp bB hT;replace EQ:=Xj EQ;replace hL9:=Xj hL9;replace bN:=Xj bN;replace SH:=Xj SH;refine mj func34 ntmps34 results34 ?_;refine ap ?_;clear i1 hl c1;refine bf ag am v.ranges (fun _=>True) (fun k=>[(22,.d (.v (.int .i64 k))),(21,.d (.v (.int .i64 v.ranges.length))),(20,.d (.sl 3 (v.ranges.map bE))),(0,.ptr 0 0),(3,.ptr 2 0)])
  (fun k=>[.box 78 [.ptr 0 0,.own 1 (g+1+k)],.row 5 1 (g+1+k) (ab (d8 (L0++(v.ranges.take k).flatMap vO))),.box 88 ((ax v).map .d)]) trivial ?_ ?_ ?_
 ·simp only[Zb,ZE,Yi];exact wf
 ·intro k x hx hk _ C hC;have eo:(k:Int) < (v.ranges.length:Int):=aa;have db:=wi k aa;obtain⟨hxr,hxn⟩:=hrg.out x (Xl hx);have mY:=pm hx vO;have hle:=Aq v.ranges (k+1) vO;rw[mY,Xv]at hle;have i3:=lv x.pool hxn;have s2:=xR x.at_ hxr;clear hxr hxn;obtain⟨L1,qG⟩:∃L1,L1=L0++(v.ranges.take k).flatMap vO:=⟨_,rfl⟩;have nJ:L1.length+(vO x).length<=1000000000:=by rw[qG,Xv];have:=SH.out;omega
  rw[<-qG];have cp:L0++(v.ranges.take (k+1)).flatMap vO=L1++vO x:=by rw[mY,qG,XV]
  replace cp:=Xj cp;replace qG:=Xj qG;clear mY hle;have hl:=Ln.mk (ls:=[0,1,4]) (pi (g+1+k) 0 (.ptr 0 0) L1 [vN,gJ x.at_,dN x.pool] (.inr rfl) ah ah nJ);change Ln _ _ _ _ _ _ [_,.row _ _ _ (ab (d8 (L1++vO x))),_]at hl;simp only[Xm,Xr,uj]at hl;have c1:Y2 #[114,97,110,103,101]=bs vN:=rfl;generalize bs vN=B1 at*;generalize bs (dN x.pool)=B2 at*;generalize bs (gJ x.at_)=B3 at*;clear nJ;refine ap ?_;refine hC _ _ trivial ?_;rw[cp.out];exact wf
 ·intro _ C;rw[Xq,<-hL9.out];refine ap ?_;obtain⟨G,hG⟩:∃G,G=g+1+v.ranges.length:=⟨_,rfl⟩;rw[<-hG];have g0:gS []=0:=rfl;refine bf ag am v.subs (fun _=>True) (fun k=>[(39,.d (.v (.int .i64 k))),(38,.d (.v (.int .i64 v.subs.length))),(37,.d (.sl 4 (v.subs.map aX))),(0,.ptr 0 0)])
   (fun k=>[.box 78 [.ptr 0 0,.own 1 (G+gS (v.subs.take k))],.row 5 1 (G+gS (v.subs.take k)) (ab (d8 (L9++(v.subs.take k).flatMap uk)))]) trivial ?_ ?_ ?_
  ·simp only[Zb,ZE,Yi,g0,XT];exact wf
  ·intro k x hx hk _ C hC;have eo:(k:Int) < (v.subs.length:Int):=aa;have db:=wi k aa;have SG:=rU.out x (Xl hx);have mY:=pm hx uk;have hle:=Aq v.subs (k+1) uk;rw[mY,Xv]at hle;have i3:=lv x.id SG.id;have s2:=xR x.at_ SG.at_;have S2:=SG.n;have hfc:=Xj SG.fc;obtain⟨L1,qG⟩:∃L1,L1=L9++(v.subs.take k).flatMap uk:=⟨_,rfl⟩;have nJ:L1.length+(uk x).length<=1000000000:=by rw[qG,Xv];have:=bN.out;omega
   rw[<-qG];obtain⟨L2,SA⟩:∃L2,L2=L1++dW [JK,dN x.id,gJ x.at_]:=⟨_,rfl⟩;have a0I:L1++uk x=L2++x.faces.flatMap sR:=by rw[SA];unfold uk;rw[XV]
   have a0J:L2.length+(x.faces.flatMap sR).length<=1000000000:=by rw[<-Xv,<-a0I,Xv];exact nJ
   have cp:L9++(v.subs.take (k+1)).flatMap uk=L2++x.faces.flatMap sR:=by rw[mY,<-XV,<-qG,a0I]
   have SI:G+gS (v.subs.take (k+1))=G+gS (v.subs.take k)+1+x.faces.length:=by rw[UX hx];omega
   generalize gS (v.subs.take k)=gk at*;have hl:=Ln.mk (ls:=[0,1,3]) (pi (G+gk) 0 (.ptr 0 0) L1 [JK,dN x.id,gJ x.at_] (.inr rfl) ah ah (by rw[<-Xv,<-SA];omega));rw[<-SA]at hl;simp only[Xm,Xr,uj]at hl;have c1:Y2 #[115,117,98]=bs JK:=rfl;generalize bs JK=B1 at*;generalize bs (dN x.id)=B2 at*;generalize bs (gJ x.at_)=B3 at*;replace cp:=Xj cp;replace SI:=Xj SI;replace qG:=Xj qG;replace SA:=Xj SA;replace a0J:=Xj a0J;replace hG:=Xj hG;clear mY hle nJ SG a0I;refine ap ?_;clear hl c1 i3 s2;refine bf ag am x.faces (fun _=>True) (fun j=>[(55,.d (.v (.int .i64 j))),(54,.d (.v (.int .i64 x.faces.length))),(53,.d (.sl 2 (x.faces.map cl))),(0,.ptr 0 0),(39,.d (.v (.int .i64 k))),(38,.d (.v (.int .i64 v.subs.length))),(37,.d (.sl 4 (v.subs.map aX)))])
    (fun j=>[.box 78 [.ptr 0 0,.own 1 (G+gk+1+j)],.row 5 1 (G+gk+1+j) (ab (d8 (L2++(x.faces.take j).flatMap sR)))]) trivial ?_ ?_ ?_
   ·simp only[Zb,ZE,Yi];exact wf
   ·intro j f hf hj _ C2 j6;have lz:(j:Int) < (x.faces.length:Int):=aa;have nI:=wi j aa;have hfT:=hfc.out f (Xl hf);have mY:=pm hf sR;have hle:=Aq x.faces (j+1) sR;rw[mY,Xv]at hle;have i3:=lv f.id hfT.id;have Sf:=hfT.n;have xa:=Xj hfT.ad;obtain⟨L3,hL3⟩:∃L3,L3=L2++(x.faces.take j).flatMap sR:=⟨_,rfl⟩;have a2j:L3.length+(sR f).length<=1000000000:=by rw[hL3,Xv];have:=a0J.out;omega
    rw[<-hL3];have ut:L2++(x.faces.take (j+1)).flatMap sR=L3++sR f:=by rw[mY,<-XV,<-hL3]
    have hl:=Ln.mk (ls:=[0,1,3]) (pi (G+gk+1+j) f.addrs.length (.ptr 0 0) L3 (qz::dN f.id::f.addrs.map dN) (.inr rfl) ah aK a2j);change Ln _ _ _ _ _ _ [_,.row _ _ _ (ab (d8 (L3++sR f))),_]at hl;rw[Em]at hl;have c1:Y2 #[102,97,99,101]=bs qz:=rfl;replace ut:=Xj ut;replace hL3:=Xj hL3;clear mY hle a2j hfT;refine ap ?_;refine bf ag am f.addrs (fun _=>True) (fun m=>[(66,.d (.v (.int .i64 m))),(65,.d (.v (.int .i64 f.addrs.length))),(64,.d (.sl 1 (f.addrs.map cF))),(10,.own 3 m),(0,.ptr 0 0),(55,.d (.v (.int .i64 j))),(54,.d (.v (.int .i64 x.faces.length))),(53,.d (.sl 2 (x.faces.map cl))),(39,.d (.v (.int .i64 k))),(38,.d (.v (.int .i64 v.subs.length))),(37,.d (.sl 4 (v.subs.map aX)))])
     (fun m=>[.box 78 [.ptr 0 0,.own 1 (G+gk+1+j)],.row 5 1 (G+gk+1+j) (ab (d8 L3)),.box 110 ((cl f).map .d),.row 9 1 m (ab ((qz::dN f.id::(f.addrs.take m).map dN).map Al))]) trivial ?_ ?_ ?_
    ·exact wf
    ·intro m a ha hm _ C3 S1;have hmI:(m:Int) < (f.addrs.length:Int):=aa;have C9:=wi m aa;have i4:=lv a (xa.out a (Xl ha));have hW:(qz::dN f.id::(f.addrs.take (m+1)).map dN).map Al=(qz::dN f.id::(f.addrs.take m).map dN).map Al++[[.v (.string (bs (dN a)))]]:=by rw[ak ha];simp[Al]
     have hWl:((qz::dN f.id::(f.addrs.take m).map dN).map Al).length=m+2:=aK;have Ax:m+2+1<=100:=aa;generalize (qz::dN f.id::(f.addrs.take m).map dN).map Al=W at*;replace hW:=Xj hW;clear hl;refine ap ?_;refine S1 _ _ trivial ?_;rw[hW.out,<-aI];exact wf (hbh:=by simp[aH,aR,aq,au,aC,bu,aI])
    ·intro _ C3;rw[Xq];generalize (qz::dN f.id::f.addrs.map dN).map Al=W at*;refine ap ?_;refine j6 _ _ trivial ?_;rw[ut.out];exact wf
   ·intro _ C2;rw[Xq];refine ap ?_;refine hC _ _ trivial ?_;rw[cp.out,SI.out];exact wf
  ·intro _ C2;rw[Xq];subst hG;refine ap ?_;exact bn rfl rfl
section
open Go.Proofs
theorem Bm (t:List UInt8)(bB:t.length<=140737488355328):
 MSpec prog 63 [.ptr 0 0,.d (.v (.string (bs t)))] [.box 78 [.d (.v (.pointer none)),.d (.v (.slice none 0 0))]] (.d (.tup [.v (.int .i64 t.length),.v .nilIface]))
  [.box 78 [.ptr 0 0,.own 1 0],.row 5 1 0 (ab (d8 t))]:=by
 refine⟨bY func63 aJ rfl,by simp,rfl,rfl,fun X hP hn hm w c vs hR dP=>?_⟩;obtain⟨v1,ry⟩:∃u,vs[0]? =some u:=⟨_,Xk (by rw[<-dP.1];simp)⟩;obtain⟨v2,Od⟩:∃u,vs[1]? =some u:=⟨_,Xk (by rw[<-dP.1];simp)⟩;have ha:=dP.2 0 _ _ rfl ry;have hb:=dP.2 1 _ _ rfl Od;have vX:vs=[v1,v2]:=by
  match vs,dP.1,ry,Od with
  |[a,b],_,h0,h1=>cases h0;cases h1;rfl
 subst vX;clear ry Od;have h0:=hR.chunk 0;cases h0 with
 |box _ _ b us sW hh hr h1'=>
  obtain⟨u0,hu0⟩:∃u,us[0]? =some u:=⟨_,Xk (by rw[<-hr.1];simp)⟩;obtain⟨u1,hu1⟩:∃u,us[1]? =some u:=⟨_,Xk (by rw[<-hr.1];simp)⟩;have q0:=hr.2 0 _ _ rfl hu0;have q1:=hr.2 1 _ _ rfl hu1;have hus:us=[u0,u1]:=by
   match us,hr.1,hu0,hu1 with
   |[a,b],_,h0,h1=>cases h0;cases h1;rfl
  subst hus;cases q0 with
  |d _ _ q0=>
   cases q0;cases q1 with
   |d _ _ q1=>
    cases q1;cases ha with
    |ptr _ _ b' hb'=>
     rw[sW]at hb';cases hb';cases hb with
     |d _ _ hd=>
      cases hd;refine(px b none (.slice none 0 0) 0 [] (bs t) w hh (.inl rfl) .nil (by simp[di]) (by rw[iG];omega)).mono ?_;rintro e w' ⟨rfl,v',w2,dL,cV,Oy,rfl⟩;rw[iG,XE]at cV;rw[iG];have r1:=hR.set_box (k:=0) (T:=78) (cells:=[.d (.v (.pointer none)),.d (.v (.slice none 0 0))]) (cells':=[.ptr 0 0,.d (.v (.slice none 0 0))]) (vs:=[.pointer none,.slice none 0 0]) (vs':=[.pointer (some ⟨b,0,none⟩),.slice none 0 0]) rfl sW hh
       ⟨rfl,fun j d x hj hx=>by
        match j with
        |0=>cases hj;cases hx;exact .ptr 0 0 b sW
        |1=>cases hj;cases hx;exact .d _ _ (.v _)
        |j+2=>simp at hj⟩ (by intro d hd;simp at hd;rcases hd with rfl|rfl<;>rfl)
      have ru:cM (w.setRow b #[.pointer (some ⟨b,0,none⟩),.slice none 0 0]) w2:=⟨dL.os,dL.tape,dL.output,dL.size,fun k hk=>dL.block k hk (by simp[di])⟩;obtain⟨c',r2,r3⟩:=r1.new_row (k:=1) (w':=w2) rfl (by rw[hm];simp) 5 1 (ab (d8 t)) v' (Zi t) ru (by rw[show (ab (d8 t)).length=t.length from vM t];simpa[Lib.strCells_eq,Lj]using cV)
       (fun b' hb'=>Oy.elim (fun e=>by rw[e]at hb';cases hb') (fun e=>e b' hb')) (CX t) (Hu t) (CY t)
      have SF:c'.bl 0=some b:=by rw[(r2.lent 0 (by rw[hm];exact ZX _)).1,<-(hR.lent 0 (by rw[hm];exact ZX _)).1];exact sW
      have hlt:b < (w.setRow b #[.pointer (some ⟨b,0,none⟩),.slice none 0 0]).heap.size:=by
       rcases XM b (w.setRow b #[.pointer (some ⟨b,0,none⟩),.slice none 0 0]).heap.size with h|h
       ·exact h
       ·have:=setRow_heap w b _ #[.pointer (some ⟨b,0,none⟩),.slice none 0 0] _ _ hh;rw[Yo h]at this;cases this
      have iO:w2.heap[b]? =some (.cells #[.pointer (some ⟨b,0,none⟩),.slice none 0 0] 78 (0,0)):=by
       rw[dL.block b hlt (by simp[di])];exact setRow_heap w b _ _ _ _ hh
      have r4:=r2.set_box (k:=0) (T:=78) (cells:=[.ptr 0 0,.d (.v (.slice none 0 0))]) (cells':=[.ptr 0 0,.own 1 0]) (vs:=[.pointer (some ⟨b,0,none⟩),.slice none 0 0]) (vs':=[.pointer (some ⟨b,0,none⟩),v']) rfl SF iO
       ⟨rfl,fun j d x hj hx=>by
        match j with
        |0=>cases hj;cases hx;exact .ptr 0 0 b SF
        |1=>cases hj;cases hx;exact r3
        |j+2=>simp at hj⟩ (by intro d hd;simp at hd;rcases hd with rfl|rfl<;>rfl)
      refine⟨_,c',rfl,.d _ _ (.tup _ [_,_] rfl fun j d x hj hx=>?_),?_⟩
      ·match j with
       |0=>exact a5M
       |1=>exact a5M
       |j+2=>simp at hj
      ·exact a6f
theorem Xf (gw:Nat)(ws:List (List UInt8))(h0:ws≠[])(hn:ws.length<=1000)(bB:(dW ws).length<=1000000000):
 MSpec prog 31 [.ptr 0 0,.own 1 gw] [.box 78 [.d (.v (.pointer none)),.d (.v (.slice none 0 0))],.row 9 1 gw (ws.map uj)] (.d (.tup []))
  [.box 78 [.ptr 0 0,.own 2 0],.gone,.row 5 1 0 (ab (d8 (dW ws)))]:=by
 have xV:(dW ws).length=(G' ws [32]).length+1:=by simp[dW]
 have hj:=Ln.mk (ls:=[1]) (RP gw ws [32] h0 aa aa);have hw:=Ln.mk (ls:=[0]) (Bm (dW ws) aa);have c1:Y2 #[32]=bs [32]:=rfl;have c2:Y2 #[10]=bs [10]:=rfl;have e:bs (G' ws [32])++bs [10]=bs (dW ws):=ph _ _;have hs:(bs (G' ws [32])).size+(bs [10]).size<=9223372036854775807:=by rw[iG,iG];simp;omega
 rw[Em]at*;generalize ws.map Al=W at*;generalize bs (G' ws [32])=J at*;generalize bs [32]=B at*;generalize bs [10]=N at*;generalize d8 (dW ws)=R2 at*;generalize bs (dW ws)=T at*;clear h0 hn bB xV;refine mj func31 ntmps31 results31 ?_;refine ap ?_;exact bn rfl rfl
def Ar:List UInt8:=[116,105,99,107]
def CZ:List UInt8:=[108,105,110,107]
def vP (k:Lnk):List UInt8:=dW [CZ,dN k.a,dN k.b]
def JL (s:Ste):List UInt8:=dW [Ar,dN s.book.tick]++s.book.pools.flatMap qy++s.net.vpcs.flatMap qA++s.net.links.flatMap vP
structure SteT (s:Ste):Prop where
 tick:Nn s.book.tick
 np:s.book.pools.length<=1000
 ps:∀p∈s.book.pools,PolT p
 nv:s.net.vpcs.length<=1000
 vs:∀v∈s.net.vpcs,VpcT v
 nl:s.net.links.length<=1000
 ls:∀k∈s.net.links,Nn k.a/\Nn k.b
 len:(JL s).length<=1000000000
def gP (l:List Pol):Nat:=(l.map fun p=>1+p.leases.length).sum
theorem UY {l:List Pol}{k:Nat}{x:Pol}(h:l[k]? =some x)(G:Nat):G+gP (l.take (k+1))=G+gP (l.take k)+1+x.leases.length:=by
 unfold gP;rw[ak h,Xo,List.sum_append];simp;omega
def gV (l:List Vpc):Nat:=(l.map fun v=>1+v.ranges.length+gS v.subs).sum
theorem UZ {l:List Vpc}{k:Nat}{x:Vpc}(h:l[k]? =some x)(G:Nat):G+gV (l.take (k+1))=G+gV (l.take k)+1+x.ranges.length+gS x.subs:=by
 unfold gV;rw[ak h,Xo,List.sum_append];simp;omega
end
theorem U0 (s:Ste)(hs:SteT s)(h:iI s=0):ai prog 15 [.agg (eR s)] (.tup [.v (.string (bs (JL s))),.v (.int .i64 0)]):=by
 have hc:=Gu s (fun p hp=>by have:=(hs.ps p hp).n;omega);rw[h]at hc;have i1:=lv s.book.tick hs.tick;have hnp:=hs.np;have hnv:=hs.nv;have EM:=hs.nl;have mL:=Xj hs.ps;have vX:=Xj hs.vs;have xB:=Xj hs.ls;obtain⟨L0,EQ⟩:∃L0,L0=dW [Ar,dN s.book.tick]:=⟨_,rfl⟩;obtain⟨L7,hL7⟩:∃L7,L7=L0++s.book.pools.flatMap qy:=⟨_,rfl⟩;obtain⟨L8,hL8⟩:∃L8,L8=L7++s.net.vpcs.flatMap qA:=⟨_,rfl⟩;have hT:JL s=L8++s.net.links.flatMap vP:=by rw[hL8,hL7,EQ];rfl
 have bB:=hs.len;rw[hT,Xv]at bB;have LJ:L7.length+(s.net.vpcs.flatMap qA).length<=1000000000:=by rw[hL8,Xv]at bB;omega
 have SJ:L0.length+(s.book.pools.flatMap qy).length<=1000000000:=by rw[hL7,Xv]at LJ;omega
 have bH:JL s≠[]:=by
  intro e;have:=congrArg O' e;rw[hT,hL8,hL7,EQ]at this;simp[dW]at this
 have hl:=Ln.mk (ls:=[1,2]) (Xf 0 [Ar,dN s.book.tick] ah ah (by rw[<-EQ];omega));rw[<-EQ]at hl;have Vz:=fun g=>RM g (JL s) bH;rw[hT]at Vz ⊢;simp only[Xm,Xr,uj]at hl;have c1:Y2 #[116,105,99,107]=bs Ar:=rfl;generalize bs Ar=B1 at*;generalize bs (dN s.book.tick)=B2 at*;clear hs h hT bH;replace EQ:=Xj EQ;replace hL7:=Xj hL7;replace hL8:=Xj hL8;replace bB:=Xj bB;replace SJ:=Xj SJ;replace LJ:=Xj LJ;replace Vz:=Xj Vz;refine pj func15 ntmps15 results15 ?_;refine ap ?_;clear i1 hl c1 hc;have g0:gP []=0:=rfl;have g1:gV []=0:=rfl;refine bf ag am s.book.pools (fun _=>True) (fun k=>[(30,.d (.v (.int .i64 k))),(29,.d (.v (.int .i64 s.book.pools.length))),(28,.d (.sl 9 (s.book.pools.map an))),(5,.ptr 1 0),(1,.ptr 0 0)])
  (fun k=>[.box 36 ((eR s).map .d),.box 78 [.ptr 1 0,.own 3 (0+gP (s.book.pools.take k))],.gone,.row 5 1 (0+gP (s.book.pools.take k)) (ab (d8 (L0++(s.book.pools.take k).flatMap qy)))]) trivial ?_ ?_ ?_
 ·simp only[Zb,ZE,Yi,g0,XT];exact wf
 ·intro k x hx hk _ C hC;have eo:(k:Int) < (s.book.pools.length:Int):=aa;have db:=wi k aa;have mY:=pm hx qy;have hle:=Aq s.book.pools (k+1) qy;rw[mY,Xv]at hle;obtain⟨L1,qG⟩:∃L1,L1=L0++(s.book.pools.take k).flatMap qy:=⟨_,rfl⟩;have nJ:L1.length+(qy x).length<=1000000000:=by rw[qG,Xv];have:=SJ.out;omega
  rw[<-qG];have cp:L0++(s.book.pools.take (k+1)).flatMap qy=L1++qy x:=by rw[mY,<-XV,<-qG]
  have SI:=UY hx 0;have pH:=Ln.mk (ls:=[1,3]) (Xd (0+gP (s.book.pools.take k)) L1 x (mL.out x (Xl hx)) nJ);generalize 0+gP (s.book.pools.take k)=gk at*;replace cp:=Xj cp;replace qG:=Xj qG;replace SI:=Xj SI;clear mY hle nJ;refine ap ?_;refine hC _ _ trivial ?_;rw[cp.out,SI.out];exact wf
 ·intro _ C;rw[Xq,<-hL7.out];generalize 0+gP s.book.pools=G;refine ap ?_;refine bf ag am s.net.vpcs (fun _=>True) (fun k=>[(42,.d (.v (.int .i64 k))),(41,.d (.v (.int .i64 s.net.vpcs.length))),(40,.d (.sl 3 (s.net.vpcs.map ax))),(5,.ptr 1 0),(1,.ptr 0 0)])
   (fun k=>[.box 36 ((eR s).map .d),.box 78 [.ptr 1 0,.own 3 (G+gV (s.net.vpcs.take k))],.gone,.row 5 1 (G+gV (s.net.vpcs.take k)) (ab (d8 (L7++(s.net.vpcs.take k).flatMap qA)))]) trivial ?_ ?_ ?_
  ·simp only[Zb,ZE,Yi,g1,XT];exact wf
  ·intro k x hx hk _ C hC;have eo:(k:Int) < (s.net.vpcs.length:Int):=aa;have db:=wi k aa;have mY:=pm hx qA;have hle:=Aq s.net.vpcs (k+1) qA;rw[mY,Xv]at hle;obtain⟨L1,qG⟩:∃L1,L1=L7++(s.net.vpcs.take k).flatMap qA:=⟨_,rfl⟩;have nJ:L1.length+(qA x).length<=1000000000:=by rw[qG,Xv];have:=LJ.out;omega
   rw[<-qG];have cp:L7++(s.net.vpcs.take (k+1)).flatMap qA=L1++qA x:=by rw[mY,<-XV,<-qG]
   have SI:=UZ hx G;have pH:=Ln.mk (ls:=[1,3]) (Xe (G+gV (s.net.vpcs.take k)) L1 x (vX.out x (Xl hx)) nJ);generalize G+gV (s.net.vpcs.take k)=gk at*;replace cp:=Xj cp;replace qG:=Xj qG;replace SI:=Xj SI;clear mY hle nJ;refine ap ?_;refine hC _ _ trivial ?_;rw[cp.out,SI.out];exact wf
  ·intro _ C;rw[Xq,<-hL8.out];generalize G+gV s.net.vpcs=G2;refine ap ?_;refine bf ag am s.net.links (fun _=>True) (fun k=>[(54,.d (.v (.int .i64 k))),(53,.d (.v (.int .i64 s.net.links.length))),(52,.d (.sl 2 (s.net.links.map cP))),(5,.ptr 1 0)])
    (fun k=>[.gone,.box 78 [.ptr 1 0,.own 3 (G2+k)],.gone,.row 5 1 (G2+k) (ab (d8 (L8++(s.net.links.take k).flatMap vP)))]) trivial ?_ ?_ ?_
   ·simp only[Zb,ZE,Yi,XT];exact(aL 0 ah).trans wf
   ·intro k x hx hk _ C hC;have eo:(k:Int) < (s.net.links.length:Int):=aa;have db:=wi k aa;have mY:=pm hx vP;have hle:=Aq s.net.links (k+1) vP;rw[mY,Xv]at hle;obtain⟨ha,hb⟩:=xB.out x (Xl hx);have i2:=lv x.a ha;have i3:=lv x.b hb;obtain⟨L1,qG⟩:∃L1,L1=L8++(s.net.links.take k).flatMap vP:=⟨_,rfl⟩;have nJ:L1.length+(vP x).length<=1000000000:=by rw[qG,Xv];have:=bB.out;omega
    rw[<-qG];have cp:L8++(s.net.links.take (k+1)).flatMap vP=L1++vP x:=by rw[mY,<-XV,<-qG]
    have hl:=Ln.mk (ls:=[1,3,5]) (pi (G2+k) 0 (.ptr 0 0) L1 [CZ,dN x.a,dN x.b] (.inr rfl) ah ah nJ);change Ln _ _ _ _ _ _ [_,.row _ _ _ (ab (d8 (L1++vP x))),_]at hl;simp only[Xm,Xr,uj]at hl;have c1:Y2 #[108,105,110,107]=bs CZ:=rfl;generalize bs CZ=B1 at*;generalize bs (dN x.a)=B2 at*;generalize bs (dN x.b)=B3 at*;replace cp:=Xj cp;replace qG:=Xj qG;clear mY hle nJ ha hb;refine ap ?_;refine hC _ _ trivial ?_;rw[cp.out];exact wf
   ·intro _ C;rw[Xq];have ec:=Ln.mk (ls:=[1,3]) (Vz.out (G2+s.net.links.length));unfold jB at ec;generalize bs (L8++s.net.links.flatMap vP)=T at*;exact bc
theorem RQ (ws:List (List UInt8))(B:Nat)(h:∀w∈ws,w.length<=B):(Lib.joinTail [32] ws).length<=ws.length*(B+1):=by
 induction ws with
 |nil=>simp[Lib.joinTail]
 |cons x r ih=>
  have h1:=h x ah;have h2:=ih fun w hw=>h w (Y1 _ hw);unfold Lib.joinTail at h2 ⊢;simp only[Xm,YL,Xv,Xx,XX,ZC]at h2 ⊢;omega
theorem jb (ws:List (List UInt8))(B:Nat)(h:∀w∈ws,w.length<=B):(dW ws).length<=ws.length*(B+1)+1:=by
 unfold dW;rw[Xv];cases ws with
 |nil=>rw[Lib.join_nil];simp
 |cons x r=>
  have h1:=h x ah;have h2:=RQ r B fun w hw=>h w (Y1 _ hw);rw[Lib.join_cons,Xv];simp only[Xx,XX,ZC]at h2 ⊢;omega
theorem pn {α:Type}(l:List α)(f:α->List UInt8)(B:Nat)(h:∀x∈l,(f x).length<=B):(l.flatMap f).length<=l.length*B:=by
 induction l with
 |nil=>simp
 |cons x r ih=>
  have h1:=h x ah;have h2:=ih fun w hw=>h w (Y1 _ hw);simp only[Zy,Xv,Xx,ZC];omega
theorem py (n:Int)(h:Nn n):(dN n).length<=60:=by
 have:=sQ n.toNat (by have:=h.1;have:=h.2;omega);unfold dN;omega
theorem En {p:Pfx}(h:p.right=true):(gJ p).length<=60:=by
 obtain⟨h1,h2,h3,h4⟩:=JI h;have a1:=sQ (p.at_.toNat / 256) aa;have a2:=sQ (p.at_.toNat % 256) aa;have a3:=sQ p.len.toNat aa;unfold gJ;simp only[Xv,Xx];omega
theorem Eo {n:Int}(h:dV n=true):Nn n:=by
 unfold dV at h;simp only[Xt,decide_eq_true_eq]at h;exact⟨by omega,by omega⟩
theorem Hw {n:Int}(h:cB n=true):Nn n:=by
 unfold cB at h;simp only[Xt,decide_eq_true_eq]at h;exact⟨by omega,by omega⟩
theorem nn0:Nn 0:=⟨by omega,by omega⟩
theorem RR {p q:Pfx}(h:dZ p q=true):p.right=true:=(fe.1 h).1
theorem U1 {b:Bok}(hb:BookOK b){p:Pol}{x:Lse}(hx:x∈p.leases)(hp:p∈b.pools):LseT x:=by
 obtain⟨-,h2,-⟩:=hb.mem p hp;have hs:=oY.1 h2;have hl:=(ir b.pools [] hb.second p hp).2 x hx;have ha:=RR (hs.ins x.at_ (XN.2 ⟨x,hx,rfl⟩));have ht:=hb.tick;unfold eP at hl;by_cases h1:x.kind=1
 ·rw[aj (by simpa using h1)]at hl;simp only[Xt,beq_iff_eq]at hl;exact⟨ha,.inl h1,Eo hl.1,hl.2 ▸ nn0⟩
 ·rw[af (by simpa using h1)]at hl;by_cases h3:x.kind=2
  ·rw[aj (by simpa using h3)]at hl;cases hq:bK b x.owner with
   |none=>rw[hq]at hl;cases hl
   |some q=>
    rw[hq]at hl;simp only[Xt,beq_iff_eq]at hl;obtain⟨i,hi,ho⟩:=jt hq;exact⟨ha,.inr (.inl h3),ho ▸ Eo (hb.mem q (Xl hi)).1,hl.2.2 ▸ nn0⟩
  ·rw[af (by simpa using h3)]at hl;split at hl
   ·rename_i h4;simp only[Xt,beq_iff_eq,decide_eq_true_eq]at hl;refine⟨ha,.inr (.inr (by simpa using h4)),hl.1 ▸ nn0,?_⟩;obtain⟨-,h5,h6⟩:=hl;exact⟨by omega,by omega⟩
   ·cases hl
theorem Lk {b:Bok}(hb:BookOK b){p:Pol}(hp:p∈b.pools):PolT p:=by
 obtain⟨h1,h2,-⟩:=hb.mem p hp;have hu:=(ir b.pools [] hb.second p hp).1;have eG:=hb.l32 p hp;refine⟨Eo h1,?_,(oY.1 h2).rr,by omega,fun x hx=>U1 hb hx hp⟩;have h8:b.pools.length≠0:=by
  intro e;rw[X4 e]at hp;cases hp
 obtain⟨n,hn⟩:∃n,b.pools.length=n+1:=⟨b.pools.length - 1,by omega⟩;rw[hn]at hu;unfold kr at hu;by_cases h0:p.up=0
 ·rw[h0];exact nn0
 ·cases hq:bK b p.up with
  |none=>rw[hq]at hu;simp[h0]at hu
  |some q=>
   obtain⟨i,hi,ho⟩:=jt hq;exact ho ▸ Eo (hb.mem q (Xl hi)).1
theorem Xg {p:Pfx}{a:Int}(hr:p.right=true)(h:jh p a=true):Nn a:=by
 obtain⟨h1,h2,h3,h4⟩:=JI hr;have h5:=p.hi_bd hr;unfold jh at h;simp only[Xt,decide_eq_true_eq]at h;unfold Pfx.hi at h5;exact⟨by omega,by omega⟩
theorem U2 {v:Vpc}(hv:VpcOK v){s:Sbn}(hs:s∈v.subs):SbnT s:=by
 have h:=hv.subs s hs;have h8:=hv.n8 s hs;unfold nE at h;simp only[Xt]at h;obtain⟨h1,h2,h3⟩:=h;unfold fJ at h2;obtain⟨r,-,h2⟩:=XU.1 h2;have hr:=RR h2;unfold dI at h3;simp only[Xt,XA]at h3;refine⟨Hw h1,hr,by omega,fun f hf=>?_⟩;have h4:=h3.1 f hf;unfold lB at h4;simp only[Xt,XA]at h4;have h5:=h8.2 f hf;exact⟨Hw h4.1,by omega,fun a ha=>Xg hr (h4.2.2.2 a ha)⟩
theorem Ll {v:Vpc}(hv:VpcOK v):VpcT v:=by
 have h4:=hv.n4;have h6:=hv.n6;refine⟨Hw hv.id,by omega,fun r hr=>?_,by omega,fun s hs=>U2 hv hs⟩;have h:=hv.ranges r hr;refine⟨jO h,?_⟩;unfold eK at h;simp only[Xt]at h;exact Hw h.1
theorem Xh {x:Lse}(h:LseT x):(pk x).length<=184:=by
 have a1:=py _ h.owner;have a2:=py _ h.till;have a3:=En h.at_;unfold pk;split
 ·exact jb [An,dN x.owner,gJ x.at_] 60 (by simp[An,a1,a3])
 ·split
  ·exact jb [Ao,dN x.owner,gJ x.at_] 60 (by simp[Ao,a1,a3])
  ·exact jb [Ap,dN x.till,gJ x.at_] 60 (by simp[Ap,a2,a3])
theorem Xi {p:Pol}(h:PolT p)(eG:p.leases.length<=32):(qy p).length<=7000:=by
 have a1:=py _ h.id;have a2:=py _ h.up;have a3:=En h.root;have a4:=jb [Am,dN p.id,Xc,dN p.up,gJ p.root] 60 (by simp[Am,Xc,a1,a2,a3]);have a5:=pn p.leases pk 184 fun x hx=>Xh (h.ls x hx);unfold qy;rw[Xv];simp only[Xx,XX]at a4;omega
theorem a0a {r:Rng}(h:r.at_.right=true/\Nn r.pool):(vO r).length<=184:=by
 have a1:=py _ h.2;have a3:=En h.1;exact jb [vN,gJ r.at_,dN r.pool] 60 (by simp[vN,a1,a3])
theorem a0b {f:Fce}(h:FceT f)(h4:f.addrs.length<=4):(sR f).length<=400:=by
 have a1:=py _ h.id;have a2:=jb (qz::dN f.id::f.addrs.map dN) 60 (by
  intro w hw;rcases X2.1 hw with rfl|hw
  ·simp[qz]
  ·rcases X2.1 hw with rfl|hw
   ·exact a1
   ·obtain⟨a,ha,rfl⟩:=XN.1 hw;exact py _ (h.ad a ha))
 unfold sR;simp only[Xx,XB]at a2;omega
theorem a0c {s:Sbn}(h:SbnT s)(h8:s.faces.length<=8/\∀f∈s.faces,f.addrs.length<=4):(uk s).length<=4000:=by
 have a1:=py _ h.id;have a3:=En h.at_;have a4:=jb [JK,dN s.id,gJ s.at_] 60 (by simp[JK,a1,a3]);have a5:=pn s.faces sR 400 fun f hf=>a0b (h.fc f hf) (h8.2 f hf);have a6:=h8.1;unfold uk;rw[Xv];simp only[Xx,XX]at a4;omega
theorem a0d {v:Vpc}(hv:VpcOK v):(qA v).length<=30000:=by
 have h:=Ll hv;have a1:=py _ h.id;have a4:=jb [JJ,dN v.id] 60 (by simp[JJ,a1]);have a5:=pn v.ranges vO 184 fun r hr=>a0a (h.rg r hr);have a6:=pn v.subs uk 4000 fun s hs=>a0c (h.sb s hs) (hv.n8 s hs);have h4:=hv.n4;have h6:=hv.n6;unfold qA;rw[Xv,Xv];simp only[Xx,XX]at a4;omega
theorem RS {n:Net}(hn:NetOK n){k:Lnk}(hk:k∈n.links):Nn k.a/\Nn k.b:=by
 have h:=hn.lk k hk;unfold lM at h;simp only[Xt]at h;have key:∀{x:Int},(fV n x).isSome=true->Nn x:=fun {x} hx=>by
  obtain⟨v,hv,rfl⟩:=XN.1 (fM hx);exact Hw (aY (hn.vp v hv)).id
 exact⟨key h.1,key h.2.1⟩
theorem a0e {k:Lnk}(h:Nn k.a/\Nn k.b):(vP k).length<=184:=by
 have a1:=py _ h.1;have a2:=py _ h.2;exact jb [CZ,dN k.a,dN k.b] 60 (by simp[CZ,a1,a2])
theorem U3 {s:Ste}(h:iI s=0):SteT s:=by
 obtain⟨h1,h2⟩:=ub h;have hb:=dJ h1;have hn:=iq.1 h2;have n8:=hb.n8;have n6:=hn.n6;have n12:=hn.n12;have ht:Nn s.book.tick:=⟨hb.tick.1,by have:=hb.tick.2;omega⟩;have a1:=py _ ht;have a2:=jb [Ar,dN s.book.tick] 60 (by simp[Ar,a1]);have a3:=pn s.book.pools qy 7000 fun p hp=>Xi (Lk hb hp) (hb.l32 p hp);have a4:=pn s.net.vpcs qA 30000 fun v hv=>a0d (aY (hn.vp v hv));have a5:=pn s.net.links vP 184 fun k hk=>a0e (RS hn hk);refine⟨ht,by omega,fun p hp=>Lk hb hp,by omega,fun v hv=>Ll (aY (hn.vp v hv)),by omega,fun k hk=>RS hn hk,?_⟩;unfold JL;rw[Xv,Xv,Xv];simp only[Xx,XX]at a2;omega
def c0 (op a b c:Int):Cmd:=⟨op,a,b,c,⟨0,0⟩,⟨0,0,0,0⟩⟩
def mG:List Cmd:=[⟨1,7,0,0,⟨256,8⟩,Q9⟩,c0 7 1 0 0,c0 7 2 0 0,c0 8 1 7 10,c0 8 2 7 0,c0 15 2 1 0,⟨10,1,4,0,⟨256,14⟩,⟨0,0,0,0⟩⟩,c0 12 1 4 9,⟨9,2,0,0,⟨320,12⟩,⟨0,0,0,0⟩⟩,⟨6,7,0,0,⟨256,10⟩,⟨0,0,0,0⟩⟩]
theorem a0f:ai prog 27 [] (.sl 10 (mG.map jE)):=by
 have h:=UH;refine pj func27 ntmps27 results27 ?_;first|exact bc|(refine ap ?_;exact dz)
def stF:Ste:=⟨⟨0,[⟨7,0,⟨256,8⟩,⟨8,16,12,3⟩,[⟨⟨256,10⟩,1,1,0⟩,⟨⟨320,12⟩,3,0,3⟩]⟩]⟩,⟨[⟨1,[⟨⟨256,10⟩,7⟩],[⟨4,⟨256,14⟩,[⟨9,[257]⟩]⟩]⟩,⟨2,[],[]⟩],[⟨1,2⟩]⟩⟩
theorem RT:iI stF=0:=aJ
theorem Lp:∀c∈mG,uC c=true:=XA.1 (show mG.all uC=true by decide)
theorem N5:lC mG=mG.take 9:=aJ
theorem U4:d7 .zero (mG.take 9)=stF:=aJ
theorem RU:JL stF=[116,105,99,107,32,48,10,112,111,111,108,32,55,32,117,112,32,48,32,49,46,48,47,56,10,117,115,101,114,32,49,32,49,46,48,47,49,48,10,99,111,111,108,32,51,32,49,46,54,52,47,49,50,10,110,101,116,32,49,10,114,97,110,103,101,32,49,46,48,47,49,48,32,55,10,115,117,98,32,52,32,49,46,48,47,49,52,10,102,97,99,101,32,57,32,50,53,55,10,110,101,116,32,50,10,108,105,110,107,32,49,32,50,10]:=aJ
theorem Hy:ai prog 11 [] (.v (.bool true)):=by
 have h1:=a0f;have a2k:=vL (xt (mG.take 9));rw[UT _ mR (fun c hc=>Lp c (Yd hc)),U4,show (mG.take 9).length=9 from rfl]at a2k;dsimp only at a2k;have Of:=U0 stF (U3 RT) RT;rw[RU]at Of;have c1:Y2 (List.toArray (List.append [116,105,99,107,32,48,10,112,111,111,108,32,55,32,117,112,32,48,32,49,46,48,47,56,10,117,115,101,114,32,49,32,49,46,48,47,49,48,10,99,111,111,108,32,51,32,49,46,54,52,47,49,50,10,110,101,116] [32,49,10,114,97,110,103,101,32,49,46,48,47,49,48,32,55,10,115,117,98,32,52,32,49,46,48,47,49,52,10,102,97,99,101,32,57,32,50,53,55,10,110,101,116,32,50,10,108,105,110,107,32,49,32,50,10]))=bs [116,105,99,107,32,48,10,112,111,111,108,32,55,32,117,112,32,48,32,49,46,48,47,56,10,117,115,101,114,32,49,32,49,46,48,47,49,48,10,99,111,111,108,32,51,32,49,46,54,52,47,49,50,10,110,101,116,32,49,10,114,97,110,103,101,32,49,46,48,47,49,48,32,55,10,115,117,98,32,52,32,49,46,48,47,49,52,10,102,97,99,101,32,57,32,50,53,55,10,110,101,116,32,50,10,108,105,110,107,32,49,32,50,10]:=rfl;generalize bs [116,105,99,107,32,48,10,112,111,111,108,32,55,32,117,112,32,48,32,49,46,48,47,56,10,117,115,101,114,32,49,32,49,46,48,47,49,48,10,99,111,111,108,32,51,32,49,46,54,52,47,49,50,10,110,101,116,32,49,10,114,97,110,103,101,32,49,46,48,47,49,48,32,55,10,115,117,98,32,52,32,49,46,48,47,49,52,10,102,97,99,101,32,57,32,50,53,55,10,110,101,116,32,50,10,108,105,110,107,32,49,32,50,10]=T at*;generalize stF=S at*;have bJ:=Xj Lp;have bB:mG.length<=10:=mR;have e0:xt (lC (mG.take 0))=⟨#[]⟩:=rfl;have Et:xt (lC (mG.take mG.length))=xt (mG.take 9):=by rw[Xq,N5]
 generalize xt (mG.take 9)=G at*;generalize mG=P at*;replace e0:=Xj e0;replace Et:=Xj Et;refine pj func11 ntmps11 results11 ?_;refine ap ?_;refine bf ag am P (fun _=>True) (fun k=>[(2,.d (.v (.int .i64 k))),(1,.d (.v (.string (xt (lC (P.take k))))))]) (fun _=>[]) trivial ?_ ?_ ?_
 ·rw[e0.out];exact wf
 ·intro k x hx hk _ C hC;have eo:(k:Int) < (P.length:Int):=aa;have db:=wi k aa;have hxk:=bJ.out x (Xl hx);have hlt:=N4 (P.take k);rw[Xp]at hlt;have hs:=Lf (xt (lC (P.take k))) x;rw[RG _ aa (RE _) x,aj hxk]at hs;dsimp only at hs;have hn:lC (P.take (k+1))=oC (lC (P.take k)) x:=by rw[ak hx,JG,aj hxk]
  generalize oC (lC (P.take k)) x=K1 at*;generalize lC (P.take k)=K0 at*;generalize (xq (d7 .zero K0) x).2.1=R at*;replace hn:=Xj hn;clear hlt bB hxk;refine ap ?_;refine hC _ _ trivial ?_;rw[hn.out];exact wf
 ·intro _ C;rw[Et.out];exact bc
theorem N6 (s:ByteArray)(c:Cmd):ai prog 10 [.v (.string s),.agg (jE c)] (.tup [.v (.string (storS s c).1),.agg (p7 (storS s c).2.1),.v (.int .i64 (storS s c).2.2)]):=by
 have h1:=yO s;unfold storS;by_cases hE:lq s=0
 ·rw[af (by simpa using hE)];have cL:=Le hE;rw[hE]at h1;have h2:=DJ c;have hl:=m7 s;cases hc:uC c with
  |false=>
   rw[hc]at h2;rw[aj rfl];refine pj func10 ntmps10 results10 ?_;first|exact bc|(refine ap ?_;exact dz)
  |true=>
   rw[hc]at h2;rw[af ah];obtain⟨hn,C4⟩:=Eg s;by_cases vV:repN s=200
   ·rw[aj vV];rw[vV]at hl;clear hn C4;refine pj func10 ntmps10 results10 ?_;first|exact bc|(refine ap ?_;exact dz)
   ·rw[af vV];have h3:=VM (d7 .zero (repL s)) c (jA (repL s)).hz (jA (repL s)).nz;have h4:=Ld (repL s);rw[Ai]at h4;dsimp only at h4;have h5:=MB (yN c) (by rw[B8];omega);have h6:=IH c hc;have e1:¬(200:Int)<=(repN s:Int):=aa;have e2:¬(repN s:Int)>=200:=aa;have h42:(0:Int)<=42*(repN s:Int):=aa;have hx:(42*(repN s:Int)).toNat=42*repN s:=aa;have Ol:=B9 c;have hex:(s.extract 0 (42*repN s)).size=42*repN s:=by rw[YT];omega
    replace vV:=Xj vV;unfold outS ansS;unfold PB at Ol ⊢;generalize xq (d7 .zero (repL s)) c=R at*;generalize d7 .zero (repL s)=S at*;generalize lc .zero (repL s)=A at*;generalize gH (yN c)=F at*;generalize yN c=T at*;generalize repL s=L at*;generalize repN s=n at*;by_cases ha:R.2.1.err=0
    ·rw[aj ha];have pG:(s.extract 0 (42*n)).size+F.size<=9223372036854775807:=aa;refine pj func10 ntmps10 results10 ?_;first|exact bc|(refine ap ?_;exact dz)
    ·rw[af ha];have ha':(R.2.1.err==0)=false:=by simpa using ha
     replace ha:=Xj ha;refine pj func10 ntmps10 results10 ?_;first|exact bc|(refine ap ?_;exact dz)
 ·rw[aj hE];have hE3:(lq s !=0)=true:=by simpa using hE
  replace hE:=Xj hE;refine pj func10 ntmps10 results10 ?_;first|exact bc|(refine ap ?_;exact dz)
theorem Ep (s:ByteArray)(c:Cmd):ai prog 3 [.v (.string s),.agg (jE c)] (.v (.bool true)):=by
 have h1:=vL s;have h2:=yO s;have h3:=Hy;have h4:=Lf s c;have h5:=N6 s c;have hl:=m7 s;generalize storS s c=R at*;by_cases hE:lq s=0
 ·have hr:recS s=(d7 .zero (repL s),(repN s:Int),0):=by unfold recS;rw[af (by simpa using hE)]
  rw[hr]at h1;rw[hE]at h2;dsimp only at h1;have h6:=Ld (repL s);rw[Ai]at h6;dsimp only at h6;have h7:=wW _ (jA (repL s));clear hr;generalize d7 .zero (repL s)=S at*;generalize lc .zero (repL s)=A at*;generalize repL s=L at*;generalize repN s=n at*;subst hl;clear hE;refine pj func3 ntmps3 results3 ?_;exact bc
 ·have hr:recS s=(.zero,0,lq s):=by unfold recS;rw[aj hE]
  rw[hr]at h1;dsimp only at h1;have hn:repL s=[]:=by
   unfold repL;unfold lq at hE;split at hE
   ·exact absurd rfl hE
   ·rename_i h;rw[af h]
  rw[hn]at h2;have h7:=wW .zero pg;have e1:(lq s==0)=false:=by simpa using hE
  generalize lq s=E at*;clear hE hn hl hr;refine pj func3 ntmps3 results3 ?_;exact bc
section
open Go.Proofs Go.ChangeShapes Go.WideShapes Go.Deep
def NM:Nat->Prop:=fun _=>False
section
variable {H:Type}{enc:TypeId × Value->H}{P:Program}{w:World}{base:Nat}{spare:Nat->Bool}{held:Bool}
def RdW {α:Type}(enc:TypeId × Value->H)(P:Program)(w:World)(base:Nat)(spare:Nat->Bool)(held:Bool)(t:TypeId)(R:List Value->α->Prop)(S:α->Prop):Prop:=
 ∀fuel cs x,DataW.trod enc P w base spare held fuel t cs=some x->∃a,R cs a/\((∀n∈x.1.weights P t,n<=reachBytes)->S a)
theorem a0g {α:Type}{t:TypeId}{R:List Value->α->Prop}(h:Rd enc P w base spare held t R):RdW enc P w base spare held t R (fun _=>True):=by
 intro fuel cs x hx;obtain⟨a,ha⟩:=h fuel cs x hx;exact⟨a,ha,fun _=>trivial⟩
theorem a2v {α:Type}{R:List Value->α->Prop}{S:α->Prop}{r:Reach}{b0:Nat}{t:TypeId}{fs:Array Field}{v:Value}{d:DataW H}{p:List MemPlace}(ht:P.underlying t=some (.struct fs))(SK:Value.okWide P w r b0 t v)(hd:DataW.Trod enc P w base spare held t v d p)
 (hr:RdW enc P w base spare held t R S):∃cs a,v= .agg cs/\R cs.toList a/\((∀n∈d.weights P t,n<=reachBytes)->S a):=by
 obtain⟨cs,rfl,_⟩:=okWide_struct ht SK;obtain⟨fuel,hf⟩:=hd;obtain⟨a,ha,hs⟩:=hr _ _ _ hf;exact⟨cs,a,rfl,by simpa[Value.cells]using ha,hs⟩
end
end
section
open Go.Proofs Go.ChangeShapes Go.WideShapes Go.Deep
section
variable {H:Type}{enc:TypeId × Value->H}{w:World}{base:Nat}{spare:Nat->Bool}{held:Bool}
theorem un:prog.cellsOf 23=2:=aJ
theorem nH:prog.cellsOf 3=1:=aJ
theorem a0h:Rd enc prog w base spare held 23 Pfx.R:=by
 intro fuel cs x hx;have hl:=Jb underlying23 hx;rw[un]at hl;obtain⟨a,ha⟩:=gy underlying23 hx 0 rfl (nF underlying3);obtain⟨b,hb⟩:=gy underlying23 hx 1 rfl (nF underlying3);match cs,hl with
 |[c0,c1],_=>
  simp[nH,Uk]at ha hb;exact⟨⟨a,b⟩,by simp[Pfx.R,ha.1,hb.1]⟩
theorem JM (l:List Int):eE NM w (l.map fun n=> .v (.int .i64 n)) (l.map fun n=> .int .i64 n):=by
 refine⟨by simp,fun j d x hj hx=>?_⟩;rw[Xy,XJ]at hj hx;obtain⟨a,ha,rfl⟩:=hj;obtain⟨c,hc,rfl⟩:=hx;rw[ha]at hc;obtain rfl:=XW.inj hc;exact .v _
end
theorem U5 {M:Nat->Prop}{w:World}:eE M w [] []:=⟨rfl,fun j d x hj _=>by simp at hj⟩
theorem Lq {M:Nat->Prop}{w:World}{d:D}{v:Value}{ds:List D}{vs:List Value}(h:RepD M w d v)(g:eE M w ds vs):eE M w (d::ds) (v::vs):=⟨by simp[g.1],fun j e x hj hx=>by
 cases j with
 |zero=>simp at hj hx;subst hj;subst hx;exact h
 |succ j=>exact g.2 j e x (by simpa using hj) (by simpa using hx)⟩
theorem U6 {w:World}{cs:Array Value}{ds:List D}(h:eE NM w ds cs.toList)(h1:ds.all D.one=true):RepD NM w (.agg ds) (.agg cs):=by
 have:=RepD.agg (M:=NM) (w:=w) ds cs.toList h.1 (fun d hd=>XA.1 h1 d hd) h.2;simpa using this
theorem a0i {P:Program}{f:Nat}{args:List D}{vs:List Value}{W:World}(hp:ai P f args (.v (.bool true)))(dP:eE NM W args vs)(hg:AU NM W:=by intro x hx;exact absurd hx (by simp[Td])):Calls P f vs.toArray W fun e w'=>e= .returned (.bool true)/\cM W w':=by
 refine(hp.2 NM W vs (fun b h=>h.elim) hg dP).mono ?_;rintro e w' ⟨v,rfl,hv,hx⟩;cases hv;exact⟨rfl,hx⟩
section
variable {H:Type}{enc:TypeId × Value->H}{w:World}{base:Nat}{spare:Nat->Bool}{held:Bool}
end
end
section
open Go.Proofs Go.ChangeShapes Go.WideShapes Go.Deep
section
variable {H:Type}{enc:TypeId × Value->H}{w:World}{base:Nat}{spare:Nat->Bool}{held:Bool}
theorem uq:prog.cellsOf 25=4:=aJ
theorem a0j:Rd enc prog w base spare held 25 fun cs (r:Rul)=>cs=[.int .i64 r.min,.int .i64 r.max,.int .i64 r.usual,.int .i64 r.cool]:=by
 intro fuel cs x hx;have hl:=Jb underlying25 hx;rw[uq]at hl;obtain⟨a,ha⟩:=gy underlying25 hx 0 rfl (nF underlying3);obtain⟨b,hb⟩:=gy underlying25 hx 1 rfl (nF underlying3);obtain⟨c,hc⟩:=gy underlying25 hx 2 rfl (nF underlying3);obtain⟨d,hd⟩:=gy underlying25 hx 3 rfl (nF underlying3);match cs,hl with
 |[c0,c1,c2,c3],_=>
  simp[nH,Uk]at ha hb hc hd;exact⟨⟨a,b,c,d⟩,by simp[ha.1,hb.1,hc.1,hd.1]⟩
theorem Er:prog.cellsOf 27=10:=aJ
theorem a0k:Rd enc prog w base spare held 27 fun cs (c:Cmd)=>eE NM w (jE c) cs:=by
 intro fuel cs x hx;have hl:=Jb underlying27 hx;rw[Er]at hl;obtain⟨o,ho⟩:=gy underlying27 hx 0 rfl (nF underlying3);obtain⟨a,ha⟩:=gy underlying27 hx 1 rfl (nF underlying3);obtain⟨b,hb⟩:=gy underlying27 hx 2 rfl (nF underlying3);obtain⟨c,hc⟩:=gy underlying27 hx 3 rfl (nF underlying3);obtain⟨p,hp⟩:=gy underlying27 hx 4 rfl a0h;obtain⟨r,hr⟩:=gy underlying27 hx 5 rfl a0j;match cs,hl with
 |[c0,c1,c2,c3,c4,c5,c6,c7,c8,c9],_=>
  simp[un,nH,uq,Uk,Pfx.R]at ho ha hb hc hp hr;refine⟨⟨o,a,b,c,p,r⟩,?_⟩;rw[ho.1,ha.1,hb.1,hc.1,hp.1,hp.2,hr.1,hr.2.1,hr.2.2.1,hr.2.2.2];exact JM [o,a,b,c,p.at_,p.len,r.min,r.max,r.usual,r.cool]
theorem U7:RdW enc prog w base spare held 27 (fun cs (c:Cmd)=>eE NM w (jE c) cs) (fun _=>True):=a0g a0k
end
end
section
open Go.Proofs
def RV:List (String × DataW Unit):=[("math/bits.deBruijn32tab",Rows.laid_math_bits_deBruijn32tab),("math/bits.deBruijn64tab",Rows.laid_math_bits_deBruijn64tab),("internal/strconv.uint64pow10",Rows.laid_internal_strconv_uint64pow10)]
theorem RW {P:Program}{w:World}{n:String}{g:Nat}{vs:Array Value}(hg:P.globalNamed n=some g)(h:w.var? P n=some vs):∃E sp,w.heap[g]? =some (.cells vs E sp):=by
 unfold World.var? at h;rw[hg]at h;simp only[Y0]at h;split at h
 ·rename_i cs E sp hh;cases h;exact⟨E,sp,hh⟩
 ·cases h
theorem VN:prog.globalNamed "internal/strconv.uint64pow10"=some OR:=aJ
theorem a1s:(prog.globals[OR]?).map (·.type)=some 359:=aJ
theorem N7 {W:World}(hH:laidMetH prog RV W):AU NM W:=by
 have h:laidMet prog RV W:=MakeChecks.laidMetH_plain prog RV W aJ ▸ hH;have hP:=Lib.tabIs_of_head (k:= .u64) (zs:=Lib.pow10Tab) (rest:=[]) VN a1s underlying359 underlying317 aJ aJ h.tail.tail;intro x hx;refine⟨fun e=>e.elim,?_⟩;unfold Td at hx;simp only[X2,List.not_mem_nil,or_false]at hx;subst hx;obtain⟨E,sp,hh⟩:=RW VN hP;exact⟨_,E,sp,hh,rfl⟩
end
section
open Go.Proofs Go.ChangeShapes Go.WideShapes Go.ChangeAt
theorem As:ownKnob prog.godebug=Option.none:=aJ
theorem mH:laidOutB prog=true:=aJ
theorem At (os:Os)(args:Array Value):laidMetH prog Rows.deskStoresRow.laid ((World.doorLaid prog 65 os).forCall (fun _ _=>0) ⟨#[],args,[]⟩).memory:=
 laidMetH_of_parts3 (fuel:=8) (laidMet_of_run' 8 aJ aJ) aJ aJ
theorem ul (os:Os)(started:os.Started)(H:Type)(enc:TypeId × Value->H):
 ReturnsInHanded {} Tryz.checked os 3 .any (fun w args=>(Rows.deskStoresSpec.pre enc prog Tryz.f3 Rows.deskStoresRow.domain false w args/\laidMetH prog Rows.deskStoresRow.laid w)/\sizedMet enc prog Tryz.f3 (OpenSpec.ofChange Rows.deskStoresSpec) false w args)
  (Rows.deskStoresSpec.post enc prog Tryz.f3 false true false false):=by
 refine returnsInHanded_of_change_and (C:=Tryz.checked) (X:=fun w _=>laidMetH prog Rows.deskStoresRow.laid w) (fun _ _ _ hh h=>h.of_heap hh) As started aJ func3
  (ChangeSpec.witness_shaped (enc:=enc) (C:=Tryz.checked) (os:=os) (X:=fun w _=>laidMetH prog Rows.deskStoresRow.laid w) false (World.doorLaid prog 65 os) #[.string ⟨#[]⟩,.agg #[.int .i64 0,.int .i64 0,.int .i64 0,.int .i64 0,.int .i64 0,.int .i64 0,.int .i64 0,.int .i64 0,.int .i64 0,.int .i64 0]] 8 rfl (World.shaped_of_RefB aJ aJ) aJ aJ aJ (At os _)) ?_
 intro W base args ds gs before Wa hW hcnd cL hL _;have SK:∀(j:Nat) t v,Tryz.f3.params[j]? =some t->args[j]? =some v->Value.okWide prog W .any base t v:=Wa;have hW':=hW;obtain⟨p,q,OC,hV,rfl,hfz,mM⟩:=hW;have hA:DataW.TrodAll enc prog W 0 (fun _=>true) true Tryz.f3.params.toList args.toList ds p:=OC;rw[params3]at hA SK cL;obtain⟨v0,vs0,d0,ds0,p0,q0,C6,rfl,rfl,h0,r0⟩:=trodAll_cons hA;obtain⟨v1,vs1,d1,ds1,p1,q1,rfl,rfl,rfl,h1,r1⟩:=trodAll_cons r0;obtain⟨rfl,rfl,rfl⟩:=trodAll_nil r1;obtain rfl:args=#[v0,v1]:=by cases args;simp_all
 obtain⟨rfl,rfl⟩:=trodVars_none hV;obtain⟨s0,rfl,rfl,-,-⟩:=Go.ChangeMaps.open_string underlying9 (SK 0 9 v0 rfl rfl) h0;have z0:=sized_string cL (j:=0) (t:=9) rfl rfl;obtain⟨a0,rfl⟩:∃l,s0=bs l:=⟨_,(a1p _).symm⟩;have b0:a0.length<=281474976710656:=by have h1:=reachBytes_lt;have h2:a0.length<=reachBytes:=z0;have h3:(2:Nat) ^ 47=140737488355328:=mR;omega
 obtain⟨cs1,a1,rfl,w1,s1⟩:=a2v underlying27 (SK 1 27 v1 rfl rfl) h1 U7;clear OC Wa;refine(a0i (Ep (bs a0) a1) (vs:=[.string (bs a0),.agg cs1]) (Lq (.v (.string (bs a0))) (Lq (U6 w1 rfl) U5)) (N7 hL)).mono fun e W' ⟨he,bel⟩=>?_;subst he;exact⟨_,rfl,_,_,_,[],_,[],hW',trodAll_mk1 (shut_bool underlying4 _),(trodAll_cons_mk (Below.trod mH aJ (of_decide_eq_true aJ) h0 bel (Gw h0)) (trodAll_cons_mk (Below.trod mH aJ (of_decide_eq_true aJ) h1 bel (Gw h1)) trodAll_mk0)),rfl,bel.frame _,fun h=>by cases h⟩
set_option maxHeartbeats 0 in
theorem xw:Tryz.f3.isInstance Tryz.pinned.checked.prog Rows.deskStoresRow.origin Rows.deskStoresRow.targs:=of_decide_eq_true aJ
theorem xx:Tryz.f3.isWrapper Tryz.pinned.checked.prog Rows.deskStoresRow.wrapper Rows.deskStoresRow.mainSum:=by unfold Func.isWrapper;first|(rw[aj (by decide+kernel)];kernel_rfl)|(rw[af (by decide+kernel)];exact⟨rfl,rfl⟩)
theorem xy:Rows.deskStoresRow.holds Tryz.pinned (OpenSpec.ofChange Rows.deskStoresSpec):=
 OpenClaim.holds_of_wide 3 Tryz.f3 rfl rfl rfl rfl rfl rfl rfl ⟨rfl,rfl,rfl,rfl,rfl⟩ rfl rfl rfl rfl rfl vQ func3 um xw xx
  (fun os started H enc _=>ul os started H enc)
theorem vR:Rows.DeskStoresSaid:=xy
theorem vS (f:FuncId)(fn:Func)(hf:Tryz.pinned.checked.prog.funcNamed "parcelway/parcelwaylaw.DeskStores"=some f)(Vo:Tryz.pinned.checked.prog.funcs[f]? =some fn):
 false=Tryz.pinned.checked.prog.looks []/\∀(j:Nat) t,fn.params[j]? =some t->Tryz.pinned.checked.prog.wantsStandIn t=false:=by
 obtain rfl:f=3:=XW.inj ((show prog.funcNamed "parcelway/parcelwaylaw.DeskStores"=some 3 by kernel_rfl).symm.trans hf)|>.symm;obtain rfl:fn=Tryz.f3:=(XW.inj (func3.symm.trans Vo)).symm;refine⟨by kernel_rfl,fun j t ht=>?_⟩;rw[params3]at ht;have hm:t∈[9,27]:=by simpa using Z1 ht
 have bo:([9,27].all fun u=>!prog.wantsStandIn u)=true:=aJ;exact(show prog.wantsStandIn t=false by simpa using XA.1 bo t hm)
theorem deskStores_card:Rows.DeskStoresCardSaid:=
 Claim7.holds_tied_plain_at .later [] _ _ _ _ vR (fun _ h=>by cases h) Bn (fun _ h=>by cases h) deskStores_row_tie rfl ⟨rfl,rfl⟩ Bo rfl vS Bp
#print axioms deskStores_card
end
end Go.Proofs.YtojojebildofnaaGreatDoor
