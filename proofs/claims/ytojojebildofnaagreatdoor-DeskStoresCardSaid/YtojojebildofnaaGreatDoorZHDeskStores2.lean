/- Texts of this work, joined. -/
import Derived.Test.YtojojebildofnaaGreatDoorZHDeskStores1
import Derived.Maps.RangeRun
import Derived.Laws.IdiomRangeMap
import Derived.WalkMore
import Derived.Laws.BytesArg
import Derived.Deep.LoopGhost
import Derived.Deep.RegionHeld3
set_option linter.unusedSimpArgs false
set_option linter.unusedVariables false
set_option maxRecDepth 100000
set_option maxHeartbeats 16000000
namespace Go.Proofs.YtojojebildofnaaGreatDoor
open Go Go.RowKit Go.Proofs.Tryz
open Go.Lib renaming hid → Xj
open _root_.List renaming getElem?_eq_getElem → Xk, mem_of_getElem? → Xl, map_cons → Xm, getElem?_eq_some_iff → Xn, map_append → Xo, length_take → Xp, take_length → Xq, map_nil → Xr, length_append → Xv, length_cons → Xx, getElem?_map → Xy, all_eq_true → XA, length_map → XB, getD_eq_getElem?_getD → XC, take_of_length_le → XG, getElem?_append_right → XH, findIdx?_eq_some_iff_getElem → XI, mem_map → XN, setIfInBounds_toArray → XO, getElem?_take_of_lt → XP, set_cons_zero → XQ, getElem?_eq_none → XR, length_drop → XS, any_eq_true → XU, append_assoc → XV, length_nil → XX, replicate → XY, set_cons_succ → XZ, mem_append → X0, mem_cons → X2, mem_iff_getElem → X3, eq_nil_of_length_eq_zero → X4, getElem?_append_left → X5, mem_singleton → X7, range → X8, cons_append → X9, getElem_of_mem → Ya, nil_append → Yb, mem_of_mem_drop → Yc, mem_of_mem_take → Yd, getElem_mem → Ye, any_eq_false → Yh, append_nil → Yi, ext_getElem? → Yj, getElem?_drop → Yl, take_append_of_le_length → Ym, findIdx?_eq_none_iff → Yn, set_append_right → Yu, getElem?_cons_succ → Yw, pairwise_cons → YC, size_toArray → YG, eraseIdx_eq_take_drop_succ → YI, take_append_drop → YK, flatMap_append → YN, drop_eq_getElem_cons → YR, mem_range → YS, all_eq_false → YW, length_set → YX, filter_append → YY, map_congr_left → Y4, filter_eq_self → Y5, take_zero → Zb, drop_length → Zc, mem_map_of_mem → Zd, length_filter_le → Ze, take_succ_eq_append_getElem → Zf, length_pos_iff → Zl, map_take → ZI, getElem_take → ZP, take_succ_cons → ZS, map_map → Z6, map_set → Z7, getElem?_range → z', length → O', range_succ → _f, getElem?_toArray → _r
open Go.World renaming size_alloc → Xs, heap_drewN → Xu, size_drew → Xw, cell? → YU, cell?_of_block → Zw
open _root_.Bool renaming and_eq_true → Xt, eq_iff_iff → Yk, and_self → Yq, true_and → Ys, and_true → YA, false_eq_true → YB, eq_false_iff → YD, or_eq_false_iff → Zx, not_eq_true' → ZO, not_true → H'
open _root_.Nat renaming le_refl → Xz, zero_le → XD, zero_add → XE, reduceAdd → XL, lt_or_ge → XM, add_zero → XT, mul_le_mul_right → Yt, lt_of_lt_of_le → Yx, le_trans → Yy, sub_self → YF, not_lt_zero → YH, le_of_eq → YZ, lt_trichotomy → Y7, add_assoc → Zh, sub_zero → Zj, min_self → Zr, eq_zero_or_pos → ZG, zero_lt_succ → ZX, reduceLT → Z8, le_of_lt → V', le_mul_of_pos_right → _j
open _root_.Option renaming map_eq_some_iff → XJ, some → XW, map_some → Yg, getD_some → Yp, isSome_some → YM, bind_some → Y0, isSome_none → Zg, isSome_iff_exists → Zo, map_none → Zq
open _root_.Array renaming getElem?_toList → X6, getElem?_eq_none → Yo, getD_eq_getD_getElem? → Yv, getElem?_eq_some_iff → Yz, getElem?_eq_getElem → YQ, replicate → Za, mem_of_getElem? → Z1, ext' → D', toList_map → U', eq_empty_of_size_eq_zero → _s, range → _v
open _root_.Int renaming dvd_of_emod_eq_zero → YJ, lt_irrefl → ZJ, eq_ofNat_of_zero_le → ZN, le_refl → ZW, toNat_of_nonneg → A', lt_or_le → X', dvd_trans → _d, dvd_sub → _w, pow_succ → _y, le_total → _z
open _root_.ByteArray renaming ext → ZV, toList_eq → _a
theorem Wi {c c1:Cx}{w:World}{ρ:Nat->Nat}{m j:Nat}{ch:Chunk}(hM:∀d x,RepD c.M w d x->RepD c1.M w d x)(hMb:∀b,c1.M b->c.M b)(hb:∀j,j < m->∀b,c.bl (ρ j)=some b->c1.bl j=some b)(ho:∀j,j < m->∀g u,c.ov (ρ j) g=some u->c1.ov j g=some u)
 (Ve:c1.bl j=c.bl (ρ j)) (Vf:c1.ov j=c.ov (ρ j)) (d4:aR m ch=true) (h:ChunkOK c w (ρ j) (mS ρ ch)):ChunkOK c1 w j ch:=by
 cases ch with
 |none=>cases h with|none h1 h2=>exact .none (Ve.trans h1) (fun g=>by rw[Vf];exact h2 g)
 |gone=>exact .gone
 |mp nB sB ents=>cases h with|mp _ _ _ b hb hh hn=>exact .mp nB sB ents b (Ve.trans hb) hh hn
 |it nB sB ents seen=>cases h with|it _ _ _ _ b bm hb hh hM hm=>exact .it nB sB ents seen b bm (Ve.trans hb) hh (fun h=>hM (hMb _ h)) hm
 |box T cells=>
  cases h with
  |box _ _ b vs h1 h2 h3 h4=>
   refine .box T cells b vs (Ve.trans h1) h2 ⟨by rw[<-h3.1,dk,XB],sd hM hb ho cells vs (by simpa[aR]using d4) h3.2⟩ (fun d hd=>?_);rw[<-qO ρ];exact h4 _ (by rw[dk];exact Zd hd)
 |row E sz g rows=>
  cases h with
  |row _ _ _ _ v xs h1 h2 h3 h4 h5 h6=>
   rw[Fj]at h2;rw[tw]at h3;refine .row E sz g rows v xs (by rw[Vf];exact h1) h2 ⟨by rw[<-h3.1,XB],sd (ρ:=ρ) hM hb ho rows.flatten xs (wx (by simpa[aR]using d4)) (fun j d x hj hx=>h3.2 j d x (by rw[<-dk];exact hj) hx)⟩ (fun r hr=>?_) (fun r hr d hd=>?_) (fun g' hg=>by rw[Vf];exact h6 g' hg)
   ·have:=h4 (r.map (ren ρ)) (by rw[fd];exact Zd (f:=(List.map (ren ρ))) hr);simpa using this
   ·have:=h5 (r.map (ren ρ)) (by rw[fd];exact Zd (f:=(List.map (ren ρ))) hr) (ren ρ d) (Zd hd);rwa [qO]at this
theorem Tn {c c2:Cx}{w:World}{ρ:Nat->Nat}{j:Nat}{ch:Chunk}(hM:∀d x,RepD c.M w d x->RepD c2.M w d x)(hMb:∀b,c2.M b->c.M b)(hb:∀k b,c.bl k=some b->c2.bl (ρ k)=some b)(ho:∀k g u,c.ov k g=some u->c2.ov (ρ k) g=some u)
 (Ve:c2.bl (ρ j)=c.bl j) (Vf:c2.ov (ρ j)=c.ov j) (h:ChunkOK c w j ch):ChunkOK c2 w (ρ j) (mS ρ ch):=by
 cases h with
 |none h1 h2=>exact .none (Ve.trans h1) (fun g=>by rw[Vf];exact h2 g)
 |gone=>exact .gone
 |mp nB sB ents b hb hh hn=>exact .mp nB sB ents b (Ve.trans hb) hh hn
 |it nB sB ents seen b bm hb hh hM hm=>exact .it nB sB ents seen b bm (Ve.trans hb) hh (fun h=>hM (hMb _ h)) hm
 |box T cells b vs h1 h2 h3 h4=>
  refine .box T _ b vs (Ve.trans h1) h2 (by rw[dk];exact h3.ren hM hb ho) (fun d hd=>?_);rw[dk]at hd;obtain⟨y,hy,rfl⟩:=XN.1 hd;rw[qO];exact h4 y hy
 |row E sz g rows v xs h1 h2 h3 h4 h5 h6=>
  refine .row E sz g _ v xs (by rw[Vf];exact h1) (by rw[Fj];exact h2) (by rw[tw];exact h3.ren hM hb ho) (fun r hr=>?_) (fun r hr d hd=>?_) (fun g' hg=>by rw[Vf];exact h6 g' hg)
  ·rw[fd]at hr;obtain⟨y,hy,rfl⟩:=XN.1 hr;rw[XB];exact h4 y hy
  ·rw[fd]at hr;obtain⟨y,hy,rfl⟩:=XN.1 hr;obtain⟨z,hz,rfl⟩:=XN.1 hd;rw[qO];exact h5 y hy z hz
theorem BT {c c1:Cx}{ρ:Nat->Nat}{j:Nat}{ch:Chunk}(hb:c1.bl j=c.bl (ρ j))(ho:c1.ov j=c.ov (ρ j)):c1.block j ch=c.block (ρ j) (mS ρ ch):=by
 cases ch<;>simp[Cx.block,mS,hb,ho]
theorem nX:∀(l:List Chunk) (k:Nat),l.length<=k->aD l k= .none
 |[],_,_=>rfl
 |c::l,0,h=>by simp at h
 |c::l,k+1,h=>by simpa[aD]using nX l k (by simpa using h)
theorem RealC.back {X:Cfg}{s:FS}{a:Act}{w w':World}{c c2:Cx}(hc:RealC X s a w c){h0 h1:List Chunk}{ls:List Nat}{nk:Nat}{X1:Cfg}(hX1:X1.w0=w/\X1.m=h0.length/\
 (∀b,X1.L b↔∃j,j < h0.length/\c.block (eW ls nk j) (s.heap (eW ls nk j))=some b)/\(∀b,X1.M0 b↔c.M b/\¬X1.L b)/\(∀j,j < h0.length->X1.c0.bl j=c.bl (eW ls nk j)/\X1.c0.ov j=c.ov (eW ls nk j)))
 (a3k:h0.length<=h1.length) (hl:ls.length=h0.length) (mM:ls.Nodup) (hlt:∀k∈ls,k < nk) (kG:∀i,h0.length+i < h1.length->s.heap (nk+i)= .none) (Ob:X.m<=nk)
 (h:RealC X1 (bS [] h1) Mg w' c2) {p:PV}{v:Value} (hp:RepP c2 w' p v):
 ∃c3,RealC X {s with heap:=cH (lJ (eW ls nk) 0 h1) s.heap} a w' c3/\RepP c3 w' (ren (eW ls nk) p) v:=by
 obtain⟨VO,Bt,hL,hM0,JV⟩:=hX1;generalize hρ:eW ls nk=ρ at*;have inj:∀i j,ρ i=ρ j->i=j:=fun i j e=>by rw[<-hρ]at e;exact Dz mM hlt e
 have new_id:∀i,ρ (h0.length+i)=nk+i:=fun i=>by rw[<-hρ,<-hl];exact lI ls nk i
 have old_id:∀j,j < h0.length->ρ j < nk:=fun j hj=>by rw[<-hρ];exact hlt _ (Xl (oP aa))
 have new_none:∀j,h0.length<=j->j < h1.length->s.heap (ρ j)= .none:=fun j h2 h3=>by
  have:=new_id (j - h0.length);rw[show h0.length+(j - h0.length)=j by omega]at this;rw[this];exact kG _ aa
 have jX:=h.lent;rw[Bt]at jX;let c3:Cx:={M:=c2.M,bl:=fun k=>open Classical in if e:∃j,j < h1.length/\ρ j=k then c2.bl e.choose else c.bl k,ov:=fun k=>open Classical in if e:∃j,j < h1.length/\ρ j=k then c2.ov e.choose else c.ov k}
 have in_bl:∀j,j < h1.length->c3.bl (ρ j)=c2.bl j/\c3.ov (ρ j)=c2.ov j:=by
  intro j hj;have e:∃i,i < h1.length/\ρ i=ρ j:=⟨j,hj,rfl⟩;have e2:=inj _ _ e.choose_spec.2;refine⟨?_,?_⟩
  ·show (if e:∃i,i < h1.length/\ρ i=ρ j then c2.bl e.choose else c.bl (ρ j))=_;rw[dif_pos e,e2]
  ·show (if e:∃i,i < h1.length/\ρ i=ρ j then c2.ov e.choose else c.ov (ρ j))=_;rw[dif_pos e,e2]
 have off_bl:∀k,(∀j,j < h1.length->ρ j≠k)->c3.bl k=c.bl k/\c3.ov k=c.ov k:=by
  intro k hk;have e:¬∃j,j < h1.length/\ρ j=k:=fun⟨j,h1,h2⟩=>hk j h1 h2;refine⟨?_,?_⟩
  ·show (if e:∃i,i < h1.length/\ρ i=k then c2.bl e.choose else c.bl k)=_;rw[dif_neg e]
  ·show (if e:∃i,i < h1.length/\ρ i=k then c2.ov e.choose else c.ov k)=_;rw[dif_neg e]
 have far:∀j,h1.length<=j->c2.bl j=none/\∀g,c2.ov j g=none:=by
  intro j hj;have:=h.chunk j;rw[show (bS [] h1).heap j= .none from nX h1 j hj]at this;cases this with|none a b=>exact⟨a,b⟩
 have fwd_b:∀k b,c2.bl k=some b->c3.bl (ρ k)=some b:=by
  intro k b hb;rcases XM k h1.length with hk|hk
  ·rw[(in_bl k hk).1];exact hb
  ·rw[(far k hk).1]at hb;cases hb
 have fwd_o:∀k g u,c2.ov k g=some u->c3.ov (ρ k) g=some u:=by
  intro k g u hu;rcases XM k h1.length with hk|hk
  ·rw[(in_bl k hk).2];exact hu
  ·rw[(far k hk).2]at hu;cases hu
 have lent_bl:∀j,j < h0.length->c2.bl j=c.bl (ρ j)/\∀g u,c.ov (ρ j) g=some u->c2.ov j g=some u:=by
  intro j hj;obtain⟨q1,q2⟩:=jX j hj;obtain⟨q3,q4⟩:=JV j hj;exact⟨q1.trans q3,fun g u hu=>q2 g u (by rw[q4];exact hu)⟩
 have hle:c.le c3:=by
  refine⟨fun k b hb=>?_,fun k g u hu=>?_⟩
  ·by_cases e:∃j,j < h1.length/\ρ j=k
   ·obtain⟨j,hj,rfl⟩:=e;rw[(in_bl j hj).1];rcases XM j h0.length with h2|h2
    ·rw[(lent_bl j h2).1];exact hb
    ·have:=hc.chunk (ρ j);rw[new_none j h2 hj]at this;cases this with|none a b2=>rw[a]at hb;cases hb
   ·rw[(off_bl k fun j hj e2=>e ⟨j,hj,e2⟩).1];exact hb
  ·by_cases e:∃j,j < h1.length/\ρ j=k
   ·obtain⟨j,hj,rfl⟩:=e;rw[(in_bl j hj).2];rcases XM j h0.length with h2|h2
    ·exact(lent_bl j h2).2 g u hu
    ·have:=hc.chunk (ρ j);rw[new_none j h2 hj]at this;cases this with|none a b2=>rw[b2]at hu;cases hu
   ·rw[(off_bl k fun j hj e2=>e ⟨j,hj,e2⟩).2];exact hu
 have blk_in:∀j,j < h1.length->c3.block (ρ j) (cH (lJ ρ 0 h1) s.heap (ρ j))=c2.block j (aD h1 j):=by
  intro j hj;have e:=DA inj (h:=s.heap) h1 0 j hj;rw[XE]at e;rw[e];exact(BT (in_bl j hj).1.symm (in_bl j hj).2.symm).symm
 have blk_off:∀k,(∀j,j < h1.length->ρ j≠k)->cH (lJ ρ 0 h1) s.heap k=s.heap k/\c3.block k (s.heap k)=c.block k (s.heap k):=by
  intro k hk;refine⟨Fk h1 0 fun j hj=>by rw[XE];exact hk j hj,?_⟩;obtain⟨q1,q2⟩:=off_bl k hk;cases s.heap k<;>simp[Cx.block,q1,q2]
 have blk_far:∀j b,c2.block j (aD h1 j)=some b->j < h1.length:=by
  intro j b hb;rcases XM j h1.length with hj|hj
  ·exact hj
  ·rw[nX h1 j hj]at hb;cases hb
 have ru:=h.ext;rw[VO]at ru;have L_M:∀b,X1.L b->c.M b:=fun b hb=>by
  obtain⟨j,hj,e⟩:=(hL b).1 hb;exact(hc.mu b).2 (.inr ⟨_,e⟩)
 have L_new:∀b,X1.L b->X.L b\/X.w0.heap.size<=b:=fun b hb=>by
  obtain⟨j,hj,e⟩:=(hL b).1 hb;exact(hc.new _ b e).1
 have a1A:=h.mu;have nu:Keep c.M w c3.M w':=by
  refine⟨ru.size,fun b hb hm=>ru.block b hb (fun e=>hm (L_M b e)),fun b hb hm=>?_⟩;rcases(a1A b).1 hm with h2|⟨k,h2⟩
  ·exact((hM0 b).1 h2).1
  ·rcases(h.new k b h2).1 with h3|h3
   ·exact L_M b h3
   ·rw[VO]at h3;omega
 have off_L:∀k b,(∀j,j < h1.length->ρ j≠k)->c.block k (s.heap k)=some b->¬X1.L b:=by
  intro k b hk hb hb';obtain⟨j,hj,e⟩:=(hL b).1 hb';exact hk j aa (hc.apart _ _ b e hb)
 refine⟨c3,⟨hc.size,hc.defers,?_,hc.inv,hc.fresh,fun b=>?_,fun k b hb=>?_,fun k k' b hb hb'=>?_,fun t=>(hc.env t).keep hle nu,fun k=>?_,fun k hk=>?_⟩,hp.ren (c2:=c3) (fun _ _ h=>h) fwd_b fwd_o⟩
 ·refine⟨ru.os.trans hc.ext.os,ru.tape.trans hc.ext.tape,ru.output.trans hc.ext.output,Yy hc.ext.size ru.size,fun b hb EM=>?_⟩;refine(ru.block b (Yx hb hc.ext.size) fun e=>?_).trans (hc.ext.block b hb EM);rcases L_new b e with h2|h2
  ·exact EM h2
  ·omega
 ·show c2.M b↔_;rw[a1A b,hM0 b,hc.mu b];constructor
  ·rintro (⟨h2|⟨k,h2⟩,h3⟩|⟨j,h2⟩)
   ·exact .inl h2
   ·refine .inr ⟨k,?_⟩;have hk:∀j,j < h1.length->ρ j≠k:=fun j hj e=>by
     subst e;rcases XM j h0.length with h4|h4
     ·exact h3 ((hL b).2 ⟨j,h4,h2⟩)
     ·rw[new_none j h4 hj]at h2;cases h2
    simp only[(blk_off k hk).1,(blk_off k hk).2];exact h2
   ·refine .inr ⟨ρ j,?_⟩;simp only[blk_in j (blk_far j b h2)];exact h2
  ·rintro (h2|⟨k,h2⟩)
   ·refine .inl ⟨.inl h2,fun e=>?_⟩;obtain⟨h3,h4⟩:=hc.fresh b h2;rcases L_new b e with h5|h5
    ·exact h4 h5
    ·omega
   ·simp only at h2;by_cases e:∃j,j < h1.length/\ρ j=k
    ·obtain⟨j,hj,rfl⟩:=e;rw[blk_in j hj]at h2;exact .inr ⟨j,h2⟩
    ·have hk:∀j,j < h1.length->ρ j≠k:=fun j hj e2=>e ⟨j,hj,e2⟩;rw[(blk_off k hk).1,(blk_off k hk).2]at h2;exact .inl ⟨.inr ⟨k,h2⟩,off_L k b hk h2⟩
 ·simp only at hb;by_cases e:∃j,j < h1.length/\ρ j=k
  ·obtain⟨j,hj,rfl⟩:=e;rw[blk_in j hj]at hb;obtain⟨h2,h3⟩:=h.new j b hb;refine⟨?_,h3⟩;rcases h2 with h2|h2
   ·exact L_new b h2
   ·rw[VO]at h2;exact .inr (Yy hc.ext.size h2)
  ·have hk:∀j,j < h1.length->ρ j≠k:=fun j hj e2=>e ⟨j,hj,e2⟩;rw[(blk_off k hk).1,(blk_off k hk).2]at hb;exact⟨(hc.new k b hb).1,Yx (hc.new k b hb).2 ru.size⟩
 ·simp only at hb hb';have am:∀j k,j < h1.length->(∀j,j < h1.length->ρ j≠k)->c2.block j (aD h1 j)=some b->c.block k (s.heap k)=some b->False:=by
   intro j k hj hk h2 h3;rcases(h.new j b h2).1 with h4|h4
   ·exact off_L k b hk h3 h4
   ·have:=(hc.new k b h3).2;rw[VO]at h4;omega
  by_cases e:∃j,j < h1.length/\ρ j=k
  ·obtain⟨j,hj,rfl⟩:=e;rw[blk_in j hj]at hb;by_cases e':∃j,j < h1.length/\ρ j=k'
   ·obtain⟨j',hj',rfl⟩:=e';rw[blk_in j' hj']at hb';rw[h.apart j j' b hb hb']
   ·have hk:∀j,j < h1.length->ρ j≠k':=fun j hj e2=>e' ⟨j,hj,e2⟩;rw[(blk_off k' hk).1,(blk_off k' hk).2]at hb';exact(am j k' hj hk hb hb').elim
  ·have hk:∀j,j < h1.length->ρ j≠k:=fun j hj e2=>e ⟨j,hj,e2⟩;rw[(blk_off k hk).1,(blk_off k hk).2]at hb;by_cases e':∃j,j < h1.length/\ρ j=k'
   ·obtain⟨j',hj',rfl⟩:=e';rw[blk_in j' hj']at hb';exact(am j' k hj' hk hb' hb).elim
   ·have hk':∀j,j < h1.length->ρ j≠k':=fun j hj e2=>e' ⟨j,hj,e2⟩;rw[(blk_off k' hk').1,(blk_off k' hk').2]at hb';exact hc.apart k k' b hb hb'
 ·simp only;by_cases e:∃j,j < h1.length/\ρ j=k
  ·obtain⟨j,hj,rfl⟩:=e;have e2:=DA inj (h:=s.heap) h1 0 j hj;rw[XE]at e2;rw[e2];exact Tn (c:=c2) (c2:=c3) (fun _ _ h=>h) (fun _ h=>h) fwd_b fwd_o (in_bl j hj).1 (in_bl j hj).2 (h.chunk j)
  ·have hk:∀j,j < h1.length->ρ j≠k:=fun j hj e2=>e ⟨j,hj,e2⟩;rw[(blk_off k hk).1];exact(hc.chunk k).keep hle nu (fun b hb=>ru.block b (hc.new k b hb).2 (off_L k b hk hb)) (off_bl k hk).1 (off_bl k hk).2
 ·obtain⟨q1,q2⟩:=hc.lent k hk;by_cases e:∃j,j < h1.length/\ρ j=k
  ·obtain⟨j,hj,rfl⟩:=e;have hj0:j < h0.length:=by
    rcases XM j h0.length with h2|h2
    ·exact h2
    ·have:=new_id (j - h0.length);rw[show h0.length+(j - h0.length)=j by omega]at this;omega
   rw[(in_bl j hj).1,(in_bl j hj).2];exact⟨(lent_bl j hj0).1.trans q1,fun g u hu=>(lent_bl j hj0).2 g u (q2 g u hu)⟩
  ·have hk':∀j,j < h1.length->ρ j≠k:=fun j hj e2=>e ⟨j,hj,e2⟩;rw[(off_bl k hk').1,(off_bl k hk').2];exact⟨q1,q2⟩
theorem RealC.lend {X:Cfg}{s:FS}{a:Act}{w:World}{c:Cx}(hc:RealC X s a w c){h0:List Chunk}{ls:List Nat}{nk:Nat}(hl:ls.length=h0.length)(mM:ls.Nodup)(hlt:∀k∈ls,k < nk)(d4:aH h0.length h0=true)(jX:bM s.heap (eW ls nk) 0 h0):
 ∃X1 c1,(X1.P=X.P/\X1.n=0/\X1.m=h0.length)/\(X1.w0=w/\X1.m=h0.length/\
  (∀b,X1.L b↔∃j,j < h0.length/\c.block (eW ls nk j) (s.heap (eW ls nk j))=some b)/\(∀b,X1.M0 b↔c.M b/\¬X1.L b)/\(∀j,j < h0.length->X1.c0.bl j=c.bl (eW ls nk j)/\X1.c0.ov j=c.ov (eW ls nk j)))/\
  RealC X1 (bS [] h0) Mg w c1/\(∀(ps:List PV) (vs:List Value),aq h0.length ps=true->bI c w (jH (eW ls nk) ps) vs->bI c1 w ps vs):=by
 generalize hρ:eW ls nk=ρ at*;have inj:∀i j,ρ i=ρ j->i=j:=fun i j e=>by rw[<-hρ]at e;exact Dz mM hlt e
 let c1:Cx:={M:=c.M,bl:=fun j=>if j < h0.length then c.bl (ρ j)else none,ov:=fun j g=>if j < h0.length then c.ov (ρ j) g else none}
 have b1:∀j,j < h0.length->c1.bl j=c.bl (ρ j)/\c1.ov j=c.ov (ρ j):=fun j hj=>⟨aj hj,funext fun g=>aj hj⟩;have lent:∀j,j < h0.length->s.heap (ρ j)=mS ρ (aD h0 j):=fun j hj=>by
  have:=BS jX (j:=j) hj;rwa [XE]at this
 have rt:∀j,j < h0.length->c1.block j (aD h0 j)=c.block (ρ j) (s.heap (ρ j)):=fun j hj=>by
  rw[lent j hj];exact BT (b1 j hj).1 (b1 j hj).2
 have far:∀j b,c1.block j (aD h0 j)=some b->j < h0.length:=fun j b hb=>by
  rcases XM j h0.length with hj|hj
  ·exact hj
  ·rw[nX h0 j hj]at hb;cases hb
 have hb:∀j,j < h0.length->∀b,c.bl (ρ j)=some b->c1.bl j=some b:=fun j hj b h=>by rw[(b1 j hj).1];exact h
 have ho:∀j,j < h0.length->∀g u,c.ov (ρ j) g=some u->c1.ov j g=some u:=fun j hj g u h=>by rw[(b1 j hj).2];exact h
 have below_at:∀(l:List Chunk) (j:Nat),aH h0.length l=true->aR h0.length (aD l j)=true:=fun l j h=>uT h j;refine⟨{P:=X.P,n:=0,m:=h0.length,w0:=w,M0:=fun b=>c.M b/\¬∃j,j < h0.length/\c.block (ρ j) (s.heap (ρ j))=some b,L:=fun b=>∃j,j < h0.length/\c.block (ρ j) (s.heap (ρ j))=some b,c0:=c1},c1,⟨rfl,rfl,rfl⟩,
  ⟨rfl,rfl,fun b=>Iff.rfl,fun b=>Iff.rfl,fun j hj=>b1 j hj⟩,⟨rfl,rfl,ExtL.refl _ _,hc.ginv.keep ⟨Xz _,fun _ _ _=>rfl,fun b _ h=>h.elim And.left fun⟨j,_,hj⟩=>(hc.mu b).2 (.inr ⟨_,hj⟩)⟩,fun b hb=>⟨hc.lt hb.1,hb.2⟩,fun b=>?_,fun k b hk=>?_,fun k k' b hk hk'=>?_,fun t=> .any _,fun k=>?_,fun k _=>⟨rfl,fun _ _ h=>h⟩⟩,fun ps vs mL hr=>?_⟩
 ·show c.M b↔_;by_cases e:∃j,j < h0.length/\c.block (ρ j) (s.heap (ρ j))=some b
  ·constructor
   ·intro _;obtain⟨j,hj,h2⟩:=e;exact .inr ⟨j,by rw[show (bS [] h0).heap j=aD h0 j from rfl,rt j hj];exact h2⟩
   ·intro _;obtain⟨j,hj,h2⟩:=e;exact(hc.mu b).2 (.inr ⟨_,h2⟩)
  ·constructor
   ·intro hm;exact .inl ⟨hm,e⟩
   ·rintro (h2|⟨j,h2⟩)
    ·exact h2.1
    ·have hj:=far j b h2;exact absurd ⟨j,hj,by rw[<-rt j hj];exact h2⟩ e
 ·have hj:=far k b hk;have h2:c.block (ρ k) (s.heap (ρ k))=some b:=by rw[<-rt k hj];exact hk
  exact⟨.inl ⟨k,hj,h2⟩,(hc.new _ b h2).2⟩
 ·have hj:=far k b hk;have hj':=far k' b hk';have h2:c.block (ρ k) (s.heap (ρ k))=some b:=by rw[<-rt k hj];exact hk
  have h3:c.block (ρ k') (s.heap (ρ k'))=some b:=by rw[<-rt k' hj'];exact hk'
  exact inj _ _ (hc.apart _ _ b h2 h3)
 ·rcases XM k h0.length with hk|hk
  ·have bp:=hc.chunk (ρ k);rw[lent k hk]at bp;exact Wi (c:=c) (c1:=c1) (ρ:=ρ) (fun _ _ h=>h) (fun _ h=>h) hb ho (b1 k hk).1 (b1 k hk).2 (below_at h0 k d4) bp
  ·rw[show (bS [] h0).heap k= .none from nX h0 k hk];exact .none (af aa) fun g=>af aa
 ·exact⟨by rw[<-hr.1,dk,XB],sd (c:=c) (c1:=c1) (ρ:=ρ) (fun _ _ h=>h) hb ho ps vs mL hr.2⟩
theorem wy {h h':Nat->Chunk}{ρ:Nat->Nat}:∀{l:List Chunk}{i:Nat},bM h ρ i l->(∀j,j < l.length->h' (ρ (i+j))=h (ρ (i+j)))->bM h' ρ i l
 |[],_,_,_=>trivial
 |c::l,i,⟨h1,h2⟩,hs=>⟨(hs 0 ah).trans h1,wy h2 fun j hj=>by
  have:=hs (j+1) (by simpa using hj);rw[show i+1+j=i+(j+1) by omega];exact this⟩
theorem Fl {X:Cfg}{ops:Array Oper}{s:FS}{o:Oper}(hd:∀d,o.dst=some d->d < X.n){fo:Operand}{args:Array Operand}{tys:Array Nat}{g:Nat}{caps margs:List PV}{h0 h1:List Chunk}{r:PV}{ls:List Nat}{nk:Nat}(ho:o.op= .call {callee:= .value fo,args:=args,argTypes:=tys})
 (hf:ev s fo= .clo g caps\/∃cd:List D,ev s fo= .d (.clo g cd)/\caps=cd.map .d) (hM:MSpec X.P g margs h0 r h1) (ha:args.toList.map (ev s)++caps=jH (eW ls nk) margs)
 (hl:ls.length=h0.length) (mM:ls.Nodup) (hlt:∀k∈ls,k < nk) (jX:bM s.heap (eW ls nk) 0 h0) (kG:∀i,h0.length+i < h1.length->s.heap (nk+i)= .none) (Ob:X.m<=nk):
 bO X ops s o {pv:=ren (eW ls nk) r,eff:=lJ (eW ls nk) 0 h1,touch:=(X8 h1.length).map (eW ls nk)}:=by
 refine⟨hd,fun kc h=>?_,fun s' he jf a w hr K Q hK=>?_⟩
 ·have h2:=Zd (f:=(·.1)) h;rw[uU]at h2;simpa using h2
 obtain⟨c,hc⟩:=hr;have d9:∀j,j < h1.length->s'.heap (eW ls nk j)=s.heap (eW ls nk j):=fun j hj=>jf _ (Zd (YS.2 hj));have a0p:=wy (h':=s'.heap) jX fun j hj=>by
  rw[XE];exact d9 j (Yx hj hM.le)
 have a1B:∀i,h0.length+i < h1.length->s'.heap (nk+i)= .none:=fun i hi=>by
  have:=lI ls nk i;rw[hl]at this;rw[<-this,d9 _ hi,this];exact kG i hi
 have vY:∀x,(x=fo\/x∈args)->ev s' x=ev s x:=fun x hx=>Do he x (by
  rw[ho];simp only[Op.operands,Call.operands];rcases hx with rfl|hx
  ·simp
  ·simp[hx])
 obtain⟨fvs,Vd,xA,sU⟩:∃fvs:List Value,a.eval fo= .func (.func g) #[] fvs.toArray/\caps.length=fvs.length/\∀(j:Nat) (p:PV) (x:Value),caps[j]? =some p->fvs[j]? =some x->RepP c w p x:=a3G
 have C6:bI c w (jH (eW ls nk) margs) (args.toList.map a.eval++fvs):=by
  rw[<-ha];refine⟨by simp[xA],fun j p x hp hx=>?_⟩;by_cases hlt:j < args.toList.length
  ·exact a4d
  ·exact a5w
 obtain⟨X1,c1,⟨e1,e2,e3⟩,hX1,uE,mL⟩:=hc.lend hl mM hlt hM.bh a0p;have jW:=hM.run X1 e1 e2 e3 w c1 (args.toList.map a.eval++fvs) uE (mL _ _ hM.ba C6);have cr:(execOp a.eval o).run X.P w= .ok (.enter g (args.toList.map a.eval++fvs).toArray) w:=by
  have e:(args.toList.map a.eval++fvs).toArray=args.map a.eval++fvs.toArray:=by
   apply D';simp
  rw[e];simp[execOp,ho,resolve,Vd,Deferred.ofValue,invoke];exact hM.fn _ _
 unfold Oper.wp;rw[cr,Oper.upon_enter];refine jW.mono ?_;rintro e w' ⟨v,c2,rfl,hv,lD⟩;obtain⟨c3,g1,g2⟩:=hc.back hX1 hM.le hl mM hlt a1B Ob lD hv;exact hK v w' ⟨c3,g1.put g2 hd⟩
theorem BU:∀{eff:List (Nat × Chunk)}{h:Nat->Chunk},(∀kc∈eff,h kc.1=kc.2)->cH eff h=h
 |[],_,_=>rfl
 |(k,c)::l,h,hs=>by
  funext k';simp only[cH];split
  ·rename_i e;subst e;exact(hs (k',c) (List.mem_cons_self ..)).symm
  ·rw[BU fun kc hk=>hs kc (by simp[hk])]
theorem To {X:Cfg}{ops:Array Oper}{s:FS}{o:Oper}{r:Res}(h:bO X ops s o r)(he:∀kc∈r.eff,s.heap kc.1=kc.2):bO X ops s o {r with eff:=[]}:=by
 refine⟨h.1,by simp,fun s' h1 h2 a w hr K Q hK=>h.2.2 s' h1 h2 a w hr K Q fun v w' hr'=>hK v w' ?_⟩;have:cH r.eff s'.heap=s'.heap:=BU fun kc hk=>by rw[h2 _ (h.2.1 kc hk)];exact he kc hk
 have e2:s'.app o.dst r=s'.app o.dst {r with eff:=[]}:=by
  unfold FS.app;rw[this];rfl
 rw[<-e2];exact hr'
theorem BV {h:Nat->Chunk}{ρ:Nat->Nat}:∀{l:List Chunk}{i:Nat},bM h ρ i l->∀kc∈lJ ρ i l,h kc.1=kc.2
 |[],_,_,kc,hk=>by simp[lJ]at hk
 |c::l,i,⟨h1,h2⟩,kc,hk=>by
  simp only[lJ,X2]at hk;rcases hk with rfl|hk
  ·exact h1
  ·exact BV h2 kc hk
theorem Pa {X:Cfg}{ops:Array Oper}{s:FS}{o:Oper}(hd:∀d,o.dst=some d->d < X.n){fo:Operand}{args:Array Operand}{tys:Array Nat}{g:Nat}{caps margs:List PV}{h0:List Chunk}{r:PV}{ls:List Nat}{nk:Nat}(ho:o.op= .call {callee:= .value fo,args:=args,argTypes:=tys})
 (hf:ev s fo= .clo g caps\/∃cd:List D,ev s fo= .d (.clo g cd)/\caps=cd.map .d) (hM:MSpec X.P g margs h0 r h0) (ha:args.toList.map (ev s)++caps=jH (eW ls nk) margs)
 (hl:ls.length=h0.length) (mM:ls.Nodup) (hlt:∀k∈ls,k < nk) (jX:bM s.heap (eW ls nk) 0 h0) (Ob:X.m<=nk):
 bO X ops s o {pv:=ren (eW ls nk) r,eff:=[],touch:=(X8 h0.length).map (eW ls nk)}:=
 To (Fl hd ho hf hM ha hl mM hlt jX (fun i hi=>by omega) Ob) (BV jX)
theorem a5j {p:Prop}(h:p:=by
 simp at h1 h2;subst h1;subst h2;exact .d _ _ (.v _)):p:=h
theorem a6a {p:Prop}(h:p:=by
 simp at h1 h2;subst h1;exact .any _):p:=h
theorem p3 (s:Bool):∀(l:List (List Int × Int)) (j i:Nat),(bA s l j)[i]? =(l[i]?).map fun kv=>{key:=j1 s kv.1,val:= .int .i64 kv.2,born:=j+i}
 |[],j,i=>by simp[bA]
 |(k,v)::l,j,0=>by simp[bA]
 |(k,v)::l,j,i+1=>by
  simp only[bA,Yw];rw[p3 s l (j+1) i];simp only[show j+1+i=j+(i+1) by omega]
theorem lK (s:Bool):∀(l:List (List Int × Int)) (j:Nat),∀x∈bA s l j,j<=x.born/\x.born < j+l.length
 |[],j,x,hx=>by simp[bA]at hx
 |(k,v)::l,j,x,hx=>by
  simp only[bA,X2]at hx;rcases hx with rfl|hx
  ·simp
  ·have:=lK s l (j+1) x hx;simp only[Xx];omega
theorem rJ (s:Bool):∀(l:List (List Int × Int)) (j:Nat),((bA s l j).map (·.born)).Nodup
 |[],j=>by simp[bA]
 |(k,v)::l,j=>by
  simp only[bA,Xm,List.nodup_cons,XN,not_exists,not_and];exact⟨fun x hx e=>by have:=(lK s l (j+1) x hx).1;omega,rJ s l (j+1)⟩
theorem RealC.range {X:Cfg}{s:FS}{a:Act}{w:World}{c:Cx}(h:RealC X s a w c){k nk n b:Nat}{sB:Bool}{ents:List (List Int × Int)}(hk:s.heap k= .mp n sB ents)(hnk:s.heap nk= .none)(Ob:¬nk < X.m)(hb:c.bl k=some b)(hh:w.heap[b]? =some (.map (bA sB ents 0).toArray ents.length)):
 ∃c',RealC X {s with heap:=cH [(nk,.it n sB ents []),(k,.gone)] s.heap} a (w.alloc (.mapIter (some b) ents.length #[] ents.length)) c'/\RepP c' (w.alloc (.mapIter (some b) ents.length #[] ents.length)) (.ptr nk 0) (.pointer (some ⟨w.heap.size,0,none⟩)):=by
 have h1:=h.freeze [k];have bH:nk≠k:=fun e=>by rw[e,hk]at hnk;cases hnk
 have a1C:cH ([k].map fun k=>(k,Chunk.gone)) s.heap nk= .none:=by
  simp only[Xm,Xr,cH,af bH];exact hnk
 have bp:=h1.chunk nk;simp only at bp;rw[a1C]at bp;have hlt:b < w.heap.size:=(Yz.1 hh).1;cases bp with
 |none Ax ho0=>
  have hx:=kk w (.mapIter (some b) ents.length #[] ents.length);have cf:(fun k'=>if k'=nk then some w.heap.size else c.bl k') nk=some w.heap.size:=aj rfl;refine⟨{M:=fun b=>m5 c s.heap [k] b\/b=w.heap.size,bl:=fun k'=>if k'=nk then some w.heap.size else c.bl k',ov:=c.ov},?_,.ptr nk 0 _ cf⟩;refine h1.new_chunk (ch:= .it n sB ents []) a1C Ob hx ⟨fun k' b hb=>?_,fun _ _ _ h=>h⟩ (fun k' bH=>af bH) (fun _ _=>rfl) (fun b=>?_) (fun b hb=>?_) (fun nu=>?_)
  ·have:k'≠nk:=fun e=>by subst e;rw[Ax]at hb;cases hb
   show (if k'=nk then some w.heap.size else c.bl k')=some b;rw[af this];exact hb
  ·exact a4f
  ·exact a4P
  ·refine .it n sB ents [] w.heap.size b cf (kN w _) (fun hM=>?_) (by rw[hx.block b hlt];exact hh);rcases hM with hM|hM
   ·exact hM.2 k ah (by rw[hk];exact hb)
   ·omega
section
variable {X:Cfg}{ops:Array Oper}{s:FS}{o:Oper}(hd:∀d,o.dst=some d->d < X.n)
include hd
theorem Pb {t k nk n:Nat}{sB:Bool}{m:Operand}{ents:List (List Int × Int)}(ho:o.op= .range t m)(hm:MapOK X.P t n sB)(hmr:ev s m= .mref k)(hk:s.heap k= .mp n sB ents)(hnk:s.heap nk= .none)(wY:¬nk < X.m):
 bO X ops s o {pv:= .ptr nk 0,eff:=[(nk,.it n sB ents []),(k,.gone)],touch:=[k,nk]}:=
 en hd (fun kc h=>by simp at h;rcases h with rfl|rfl<;>simp) fun s' he jf a w c hc=>by
  have e1:=bR hc m;rw[he m (by simp[ho,Op.operands]),hmr]at e1;have hk':s'.heap k= .mp n sB ents:=by rw[jf k ah];exact hk
  have bp:=hc.chunk k;rw[hk']at bp;generalize hu:a.eval m=u at e1;cases e1 with
  |mref _ b hb=>
   cases bp with
   |mp _ _ _ b' hb' hh hn=>
    rw[hb]at hb';cases hb';obtain⟨c',h1,h2⟩:=hc.range hk' (by rw[jf nk ah];exact hnk) wY hb hh;obtain⟨kt,et,i,hut,-⟩:=hm;refine⟨_,_,_,?_,.inl rfl,c',h1,h2⟩;simp only[execOp,ho,hu];rw[Sem.run_bind,run_range_map w t kt et b _ _ hut hh];rfl
theorem Pc {k n i:Nat}{sB:Bool}{x:Operand}{ents:List (List Int × Int)}{seen:List Nat}{kv:List Int × Int}(ho:o.op= .entry x)(hx:ev s x= .ptr k 0)(hk:s.heap k= .it n sB ents seen)(hl:seen.getLast? =some i)(hi:ents[i]? =some kv):
 bO X ops s o {pv:= .tup [.any,.d (.v (.int .i64 kv.2))],touch:=[k]}:=
 aN hd fun s' he jf a w c hc=>by
  have e1:=bR hc x;rw[he x (by simp[ho,Op.operands]),hx]at e1;have hk':s'.heap k= .it n sB ents seen:=by rw[jf k ah];exact hk
  have bp:=hc.chunk k;rw[hk']at bp;generalize hu:a.eval x=u at e1;cases e1 with
  |ptr _ _ b hb=>
   cases bp with
   |it _ _ _ _ b' bm hb' hh hM hm=>
    rw[hb]at hb';cases hb';obtain⟨pre,rfl⟩:∃pre,seen=pre++[i]:=by
     rw[List.getLast?_eq_some_iff]at hl;exact hl
    have hg:=p3 sB ents 0 i;rw[hi]at hg;have hh2:w.heap[b]? =some (.mapIter (some bm) ents.length (pre.toArray.push i) ents.length):=by rw[hh];simp
    have cr:=run_entry_at (P:=X.P) w b bm ents.length pre.toArray (bA sB ents 0).toArray ents.length {key:=j1 sB kv.1,val:= .int .i64 kv.2,born:=i} hh2 hm (by
     have:=Xl hg;simpa using this) (by simpa using rJ sB ents 0)
    refine⟨.tuple #[j1 sB kv.1,.int .i64 kv.2],?_,.tup _ [j1 sB kv.1,.int .i64 kv.2] rfl ?_⟩
    ·simp only[execOp,ho,hu];rw[Sem.run_bind,cr];rfl
    ·intro j d y h1 h2;match j with
     |0=>exact a6a
     |1=>exact a5j
     |j+2=>simp at h1
end
theorem a4F {p:Prop}(h:p:=by
 have:=tk.arr;rw[ha]at this;cases d<;>simp[OX]at this;rw[this.1,this.2]):p:=h
theorem a4W {p:Prop}(h:p:=by
 have:=tk.kind;rw[hk]at this;cases d<;>simp[rF]at this;rfl):p:=h
theorem a5e {p:Prop}(h:p:=by
 simp[Dp]at hr;obtain⟨h0,rfl⟩:=hr;simp[execOp,ho,h1,h2,eqGuard,binOp,Op.shift,Int.not_lt.2 h0]):p:=h
theorem a5N {p:Prop}(h:p:=by
 cases e1;rcases hr with⟨rfl,rfl⟩|⟨rfl,rfl⟩<;>simp[binOp,hq]):p:=h
theorem Tp {a b:ByteArray}:(a.toList==b.toList)=decide (a=b):=by
 rw[_a,_a,Yk,beq_iff_eq,decide_eq_true_iff];exact⟨fun h=>ZV (D' h),fun h=>by rw[h]⟩
def DB (s:ByteArray)(i:Nat):Int:=((s.data.toList.getD i 0).toNat:Int)
theorem IB {s:ByteArray}{i:Nat}(h:i < s.size):s[i]? =some (s.data.toList.getD i 0):=by
 have h2:i < s.data.size:=h;rw[getElem?_pos s i h];congr 1;rw[XC,X6,YQ h2];rfl
def p4:List (List D)->Option (List Int)
 |[]=>some []
 |[.v (.int .u8 n)]::l=>(p4 l).map (n:: ·)
 |_=>none
theorem BW:∀{rows:List (List D)}{xs:List Int},p4 rows=some xs->rows=xs.map fun n=>[.v (.int .u8 n)]
 |[],xs,h=>by simp[p4]at h;subst h;rfl
 |r::rows,xs,h=>by
  unfold p4 at h;split at h
  ·rename_i e;cases e
  ·rename_i n l e;cases e;cases hb:p4 rows with
   |none=>rw[hb]at h;cases h
   |some ys=>
    rw[hb]at h;cases h;rw[BW hb];rfl
  ·cases h
section
variable {X:Cfg}{ops:Array Oper}{s:FS}{o:Oper}(hd:∀d,o.dst=some d->d < X.n)
include hd
theorem Mh {t t':Nat}{x y:Operand}{a b:ByteArray}(ho:o.op= .binOp .add t x y t')(hx:ev s x= .d (.v (.string a)))(hy:ev s y= .d (.v (.string b)))(hl:a.size+b.size<=9223372036854775807):
 bO X ops s o {pv:= .d (.v (.string (a++b)))}:=
 aN hd fun s' he _ ac w c hc=>by
  have h1:=dt hc ((he x (by simp[ho,Op.operands])).trans hx);have h2:=dt hc ((he y (by simp[ho,Op.operands])).trans hy);have hr:=run_string_add_sum (P:=X.P) w a b aa;refine⟨.string (a++b),?_,.d _ _ (.v _)⟩;simp[execOp,ho,h1,h2,eqGuard,binOp,hr]
theorem Fm {op:BinOp}{t t':Nat}{x y:Operand}{a b:ByteArray}{r:Bool}(ho:o.op= .binOp op t x y t')(hx:ev s x= .d (.v (.string a)))(hy:ev s y= .d (.v (.string b)))(hr:(op= .eql/\r=decide (a=b))\/(op= .neq/\r=!decide (a=b))):
 bO X ops s o {pv:= .d (.v (.bool r))}:=
 aN hd fun s' he _ ac w c hc=>by
  have h1:=dt hc ((he x (by simp[ho,Op.operands])).trans hx);have h2:=dt hc ((he y (by simp[ho,Op.operands])).trans hy);refine⟨.bool r,?_,.d _ _ (.v _)⟩;rcases hr with⟨rfl,rfl⟩|⟨rfl,rfl⟩<;>simp[execOp,ho,h1,h2,eqGuard,binOp,Op.stringOp,Tp]
theorem Mi {t:Nat}{x:Operand}{a:ByteArray}{ti:TI}(ho:o.op= .call {callee:= .builtin .len,args:=#[x],argTypes:=#[t]})(ht:aW X.P t=some ti)(hk:ti.kind=2)(hx:ev s x= .d (.v (.string a))):
 bO X ops s o {pv:= .d (.v (.int .i64 a.size))}:=
 aN hd fun s' he _ ac w c hc=>by
  have h1:=dt hc ((he x (by simp[ho,Op.operands,Call.operands])).trans hx);obtain⟨i,d,z,tk⟩:=jg ht;have ly:d= .string:=a4W
  subst ly;refine⟨.int .i64 a.size,?_,.d _ _ (.v _)⟩;simp[execOp,ho,h1,resolve,invoke,builtin,Builtin.len_,run_underlying tk.und,goInt]
theorem Fn {t:Nat}{x y:Operand}{a:ByteArray}{k:IntKind}{n:Int}{ti:TI}(ho:o.op= .index t x y)(ht:aW X.P t=some ti)(hk:ti.kind=2)(hx:ev s x= .d (.v (.string a)))(hy:ev s y= .d (.v (.int k n)))(hn:0<=n)(hlt:n.toNat < a.size):
 bO X ops s o {pv:= .d (.v (.int .u8 (DB a n.toNat)))}:=
 aN hd fun s' he _ ac w c hc=>by
  have h1:=dt hc ((he x (by simp[ho,Op.operands])).trans hx);have h2:=dt hc ((he y (by simp[ho,Op.operands])).trans hy);obtain⟨i,d,z,tk⟩:=jg ht;have ly:d= .string:=a4W
  subst ly;refine⟨.int .u8 (DB a n.toNat),?_,.d _ _ (.v _)⟩;simp[execOp,ho,h1,h2,Instr.index,asIntOf,run_underlying tk.und,hn,IB hlt,DB]
theorem Fo {t:Nat}{x:Operand}{lo hi:Option Operand}{a:ByteArray}{ti:TI}{l h:Nat}(ho:o.op= .slice t x lo hi none)(ht:aW X.P t=some ti)(hk:ti.kind=2)
 (hx:ev s x= .d (.v (.string a))) (j0:J9 (lo.map (ev s))=some l) (lh:Ka a.size (hi.map (ev s))=some h) (h1:l<=h) (h2:h<=a.size):bO X ops s o {pv:= .d (.v (.string (a.extract l h)))}:=
 aN hd fun s' he _ ac w c hc=>by
  have e1:=dt hc ((he x (by simp[ho,Op.operands])).trans hx);rw[<-yo (s:=s) (s':=s') (fun y hy=>he y (by simp[ho,Op.operands,hy]))]at j0 lh;have b1:=pX hc j0;have b2:=pY hc lh;obtain⟨i,d,z,tk⟩:=jg ht;have ly:d= .string:=a4W
  subst ly;refine⟨.string (a.extract l h),?_,.d _ _ (.v _)⟩;have g1:(0:Int)<=(l:Int):=aa;have g2:(0:Int)<=(h:Int):=aa;have g3:(l:Int)<=(h:Int):=aa;have g4:(h:Int)<=(a.size:Int):=aa;simp only[execOp,ho,e1,Zq];generalize lo.map ac.eval=lo' at b1;generalize hi.map ac.eval=hi' at b2;rcases b1 with⟨rfl,rfl⟩|⟨k,rfl⟩<;>rcases b2 with⟨rfl,rfl⟩|⟨k',rfl⟩<;>
   simp[Instr.sliceAt,Instr.slice,run_underlying tk.und,Instr.sliceBounds,Instr.sliceBound,asIntOf,g1,g2,g3,g4,h1,h2,Nat.not_lt.2 h1,Nat.not_lt.2 h2]
theorem Fp {src dst e:Nat}{x:Operand}{rows:List (List D)}{xs:List Int}{ts td te:TI}(ho:o.op= .convert src dst x)(hs:aW X.P src=some ts)(ht:aW X.P dst=some td)(he':ts.elem=some e)(iH:aW X.P e=some te)(hi:te.int=some .u8)(hk:td.kind=2)
 (hx:ev s x= .d (.sl 1 rows)) (hb:p4 rows=some xs):bO X ops s o {pv:= .d (.v (.string (strOfNums xs)))}:=
 aN hd fun s' he _ ac w c hc=>by
  have e1:=bR hc x;rw[he x (by simp[ho,Op.operands]),hx]at e1;generalize hu:ac.eval x=u at e1;have e1:=cn e1;obtain⟨i,d,z,tk⟩:=jg hs;obtain⟨i2,d2,z2,tk2⟩:=jg ht;obtain⟨i3,d3,z3,tk3⟩:=jg iH;have Vg:d= .slice e:=a3C
  have C7:d2= .string:=by
   have:=tk2.kind;rw[hk]at this;cases d2<;>simp[rF]at this;rfl
  have hd3:d3= .int .u8:=by
   have:=tk3.int;rw[hi]at this;cases d3<;>simp[Th]at this;rw[this]
  subst Vg C7 hd3;have R7:=BW hb;refine⟨.string (strOfNums xs),?_,.d _ _ (.v _)⟩;cases e1 with
  |nil _ ao cap hm=>
   have:xs=[]:=by cases xs with|nil=>rfl|cons a l=>simp at R7
   subst this;simp only[execOp,ho,hu];rw[Sem.run_bind,run_convert_bytes_string w src dst e ao 0 cap tk.und tk3.und tk2.und];cases ao with
   |none=>rfl
   |some a=>
    have hl:(loadCells a 0).run X.P w= .ok (([]:List Int).map (Value.int .u8)).toArray w:=by simp[loadCells,loadCellsFrom]
    rw[run_bytesToString w a 0 cap [] hl];rfl
  |sl _ _ b off cap f hM sW gU hm hr h1' ck bC=>
   have bB:rows.length=xs.length:=by rw[R7,XB]
   have hce:∀i,i < rows.length->w.cell? ⟨b,off+i,none⟩=some (.int .u8 (xs.getD i 0)):=fun i hi=>by
    have h0:=ck i 0 hi aa;rw[Nat.mul_one,XT]at h0;rw[h0];obtain⟨n,hn⟩:∃n,xs[i]? =some n:=⟨_,Xk aa⟩;have h2:=bC i 0 [.v (.int .u8 n)] (.v (.int .u8 n)) (by rw[R7,Xy,hn];rfl) rfl;rw[XC,hn,Yp];generalize f i 0=fv at h2;cases h2;rfl
   have hr':=run_convert_bytes_arg (P:=X.P) w src e tk.und tk3.und b off rows.length cap xs bB.symm hce dst tk2.und;simp only[execOp,ho,hu];rw[Sem.run_bind,hr'];rfl
theorem IC {t e n sz k off:Nat}{x y:Operand}{kd:IntKind}{i:Int}{ti te:TI}(ho:o.op= .indexAddr t x y)(ht:aW X.P t=some ti)(ha:ti.arr=some (n,e))(iH:aW X.P e=some te)(cL:te.size=sz)
 (hx:ev s x= .ptr k off) (hy:ev s y= .d (.v (.int kd i))) (hi:0<=i) (hlt:i.toNat < n):bO X ops s o {pv:= .ptr k (off+i.toNat*sz)}:=
 aN hd fun s' he _ ac w c hc=>by
  have e1:=bR hc x;rw[he x (by simp[ho,Op.operands]),hx]at e1;have e2:=dt hc ((he y (by simp[ho,Op.operands])).trans hy);generalize hu:ac.eval x=u at e1;obtain⟨ii,d,z,tk⟩:=jg ht;obtain⟨ie,de,ze,tke⟩:=jg iH;have ly:d= .array n e:=a4F
  subst ly;cases e1 with
  |ptr _ _ b hb=>
   have uu:0<=i/\i < (n:Int):=⟨hi,by omega⟩;refine⟨.pointer (some ⟨b,off+i.toNat*sz,none⟩),?_,.ptr k _ b hb⟩;simp[execOp,ho,hu,e2,Instr.indexAt,Instr.sureAddr,asIntOf,run_underlying tk.und,uu,sizeOf,typeInfo,tke.info,tke.size,cL,Addr.add_lit]
theorem Fq {t e n:Nat}{x y:Operand}{kd:IntKind}{i:Int}{ti te:TI}{ds:List D}{q:D}(ho:o.op= .index t x y)(ht:aW X.P t=some ti)(ha:ti.arr=some (n,e))(iH:aW X.P e=some te)(cL:te.size=1)(rm:te.agg=false)
 (hx:ev s x= .d (.agg ds)) (hy:ev s y= .d (.v (.int kd i))) (hi:0<=i) (hlt:i.toNat < n) (hq:ds[i.toNat]? =some q):bO X ops s o {pv:= .d q}:=
 aN hd fun s' he _ ac w c hc=>by
  have e1:=bR hc x;rw[he x (by simp[ho,Op.operands]),hx]at e1;have e2:=dt hc ((he y (by simp[ho,Op.operands])).trans hy);generalize hu:ac.eval x=u at e1;obtain⟨ii,d,z,tk⟩:=jg ht;obtain⟨ie,de,ze,tke⟩:=jg iH;have ly:d= .array n e:=a4F
  subst ly;have e1:=cn e1;cases e1 with
  |agg _ vs hl h1 bC=>
   have uu:0<=i/\i < (n:Int):=⟨hi,by omega⟩;have qF:i.toNat < vs.length:=by rw[<-hl];exact(Xn.1 hq).1
   have N8:(isAgg e).run X.P w= .ok false w:=by
    unfold isAgg;rw[Sem.run_bind,run_underlying tke.und w];have:=tke.agg;rw[rm]at this;cases de<;>simp[Tf]at this ⊢
   refine⟨vs[i.toNat],?_,.d _ _ (bC i.toNat q _ hq (Xk qF))⟩;simp[execOp,ho,hu,e2,Instr.index,asIntOf,run_underlying tk.und,uu,sizeOf,typeInfo,tke.info,tke.size,cL,part,N8,Xk qF]
theorem Fr {t n e:Nat}{parts:Array (Nat × Operand)}{ti te:TI}{pd:List (Nat × List PV)}{out:List PV}(ho:o.op= .build t parts)(ht:aW X.P t=some ti)(ha:ti.arr=some (n,e))(iH:aW X.P e=some te)
 (hp:pd.length=parts.size) (hq:∀(j:Nat) (i:Nat) (x:Operand),parts[j]? =some (i,x)->pd[j]? =some (i,cX (ev s x))/\BM (ev s x)=true) (hf:rH ((X8 n).map fun i=>(i*te.size,te.size)) (ti.zero.map fun x=> .d (.v x)) pd=some out):
 bO X ops s o {pv:=uO out}:=by
 obtain⟨ii,d,z,tk⟩:=jg ht;obtain⟨ie,de,ze,tke⟩:=jg iH;have ly:d= .array n e:=a4F
 subst ly;refine BN hd ho ht (place:=fun i=>some (i*te.size,te.size)) (fun i p h=>?_) (fun ps=>?_) hp hq hf
 ·rw[Xy,XJ]at h;obtain⟨m,hm,rfl⟩:=h;have:=(Xn.1 hm).2;simp at this;rw[this]
 ·unfold Program.built;have:z.cells=ti.zero.toArray:=by rw[<-tk.zcells]
  simp only[tk.info,tk.und,tk.zero,tke.info,tke.size,this]
omit hd in
theorem DC {P:Program}{t:Nat}{ms:Array (String × TypeId)}(h:P.underlying t=some (.interface ms))(d:D)(M:Nat->Prop)(w:World)(v:Value)(hv:RepD M w d v)(hn:d= .nei\/d= .v .nilIface):
 (Op.equal t v .nilIface).run P w= .ok (match d with| .nei=>false|_=>true) w:=by
 unfold Op.equal;rcases hn with rfl|rfl
 ·cases hv;show (Op.equalIn (9999+1) t _ .nilIface).run P w=_;rw[Op.equalIn,Sem.run_bind,run_underlying h];rfl
 ·cases hv;show (Op.equalIn (9999+1) t .nilIface .nilIface).run P w=_;rw[Op.equalIn,Sem.run_bind,run_underlying h];rfl
theorem tz {op:BinOp}{t t':Nat}{x:Operand}{d:D}{ti:TI}{r:Bool}(ho:o.op= .binOp op t x (.const .nilIface) t')(ht:aW X.P t=some ti)(hk:ti.kind=5)(hx:ev s x= .d d)(hn:d= .nei\/d= .v .nilIface)
 (hr:(op= .eql/\r=(match d with| .nei=>false|_=>true))\/(op= .neq/\r=!(match d with| .nei=>false|_=>true))):bO X ops s o {pv:= .d (.v (.bool r))}:=
 aN hd fun s' he _ ac w c hc=>by
  have e1:=bR hc x;rw[he x (by simp[ho,Op.operands]),hx]at e1;generalize hu:ac.eval x=u at e1;have e1:=cn e1;obtain⟨i,dd,z,tk⟩:=jg ht;have ly:∃ms,dd= .interface ms:=by
   have:=tk.kind;rw[hk]at this;cases dd<;>simp[rF]at this;exact⟨_,rfl⟩
  obtain⟨ms,rfl⟩:=ly;have hq:=DC tk.und d _ w u e1 hn;have hg:eqGuard op t x (.const .nilIface) u .nilIface=pure ():=by
   rcases hn with rfl|rfl
   ·cases e1;rcases hr with⟨rfl,-⟩|⟨rfl,-⟩<;>rfl
   ·cases e1;exact eqGuard_nil_constR _ _ _ _
  refine⟨.bool r,?_,.d _ _ (.v _)⟩;have hb:(binOp op t u .nilIface).run X.P w= .ok (.bool r) w:=by
   rcases hn with rfl|rfl
   ·exact a5N
   ·exact a5N
  have jV:ac.eval (.const .nilIface)= .nilIface:=rfl;simp[execOp,ho,hu,jV,hg,hb]
theorem Fs {op:BinOp}{t t':Nat}{x y:Operand}{k k':IntKind}{m n:Int}{r:Value}(ho:o.op= .binOp op t x y t')(mP:op= .shl\/op= .shr)(hx:ev s x= .d (.v (.int k m)))(hy:ev s y= .d (.v (.int k' n)))(hr:Dp op k m n=some r):
 bO X ops s o {pv:= .d (.v r)}:=
 aN hd fun s' he _ a w c hc=>by
  have h1:=dt hc ((he x (by simp[ho,Op.operands])).trans hx);have h2:=dt hc ((he y (by simp[ho,Op.operands])).trans hy);refine⟨r,?_,.d _ _ (.v _)⟩;rcases mP with rfl|rfl
  ·exact a5e
  ·exact a5e
end
inductive SR where
 |no
 |res (p:PV) (eff:List (Nat × Chunk)) (touch:List Nat) (side:Prop)
 |call (g:Nat) (ps:List PV)
def tB (c a b:PV):SR:=
 match c with
 | .d (.v (.bool t))=>
  match a,b with
  | .d (.v (.bool p)),.d (.v (.bool q))=> .res (.d (.v (.bool (bif t then p else q)))) [] [] True
  |_,_=> .res (if t then a else b) [] [] True
 |_=> .no
def unS (op:UnOp)(x:PV):SR:=
 match op,x with
 | .not,.d (.v (.bool b))=> .res (.d (.v (.bool (!b)))) [] [] True
 | .neg,.d (.v (.int k n))=> .res (.d (.v (.int k (k.wrap (0 - n))))) [] [] True
 |_,_=> .no
def Pd (x:PV):SR:=
 match x with
 | .ptr k off=> .res (.ptr k off) [] [] True
 | .rp k g sz i j=> .res (.rp k g sz i j) [] [] True
 | .d (.ept cs)=> .res (.d (.ept cs)) [] [] True
 |_=> .no
def Pe (ti:Option TI)(q:Option Nat)(op:BinOp)(x y:PV):SR:=
 match x,y with
 | .d (.v (.int k m)),.d (.v (.int k' n))=>
  if k=k' then
   match op with
   | .quo=> .res (.d (.v (.int k (k.wrap (m.tdiv n))))) [] [] (n≠0)
   | .rem=> .res (.d (.v (.int k (m.tmod n)))) [] [] (n≠0)
   |_=>match Dp op k m n with
    |some r=> .res (.d (.v r)) [] [] True
    |none=> .no
  else
   match op with
   | .shl=>match Dp .shl k m n with|some r=> .res (.d (.v r)) [] [] True|none=> .no
   | .shr=>match Dp .shr k m n with|some r=> .res (.d (.v r)) [] [] True|none=> .no
   |_=> .no
 | .d (.v (.string m)),.d (.v (.string n))=>
  match op with
  | .add=> .res (.d (.v (.string (m++n)))) [] [] (m.size+n.size<=9223372036854775807)
  | .eql=> .res (.d (.v (.bool (decide (m=n))))) [] [] True
  | .neq=> .res (.d (.v (.bool !decide (m=n)))) [] [] True
  |_=> .no
 | .d (.v (.bool m)),.d (.v (.bool n))=>
  match ti,op with
  |some ti,.eql=> .res (.d (.v (.bool (m==n)))) [] [] (ti.kind=1)
  |some ti,.neq=> .res (.d (.v (.bool (m !=n)))) [] [] (ti.kind=1)
  |_,_=> .no
 | .d (.v (.pointer none)),.d (.v (.pointer none))=>
  match ti,op with
  |some ti,.eql=> .res (.d (.v (.bool true))) [] [] (ti.kind=3)
  |some ti,.neq=> .res (.d (.v (.bool false))) [] [] (ti.kind=3)
  |_,_=> .no
 | .ptr _ _,.d (.v (.pointer none))=>
  match ti,op with
  |some ti,.eql=> .res (.d (.v (.bool false))) [] [] (ti.kind=3)
  |some ti,.neq=> .res (.d (.v (.bool true))) [] [] (ti.kind=3)
  |_,_=> .no
 | .rp _ _ _ _ _,.d (.v (.pointer none))=>
  match ti,op with
  |some ti,.eql=> .res (.d (.v (.bool false))) [] [] (ti.kind=3)
  |some ti,.neq=> .res (.d (.v (.bool true))) [] [] (ti.kind=3)
  |_,_=> .no
 | .d (.ept _),.d (.v (.pointer none))=>
  match ti,op with
  |some ti,.eql=> .res (.d (.v (.bool false))) [] [] (ti.kind=3)
  |some ti,.neq=> .res (.d (.v (.bool true))) [] [] (ti.kind=3)
  |_,_=> .no
 | .d (.sl _ (_::_)),.d (.v (.slice none _ _))=>
  match ti,op with
  |some ti,.eql=> .res (.d (.v (.bool false))) [] [] (ti.elem.isSome=true)
  |some ti,.neq=> .res (.d (.v (.bool true))) [] [] (ti.elem.isSome=true)
  |_,_=> .no
 | .d (.v (.slice ao _ _)),.d (.v (.slice none _ _))=>
  match ti,op with
  |some ti,.eql=> .res (.d (.v (.bool ao.isNone))) [] [] (ti.elem.isSome=true)
  |some ti,.neq=> .res (.d (.v (.bool !ao.isNone))) [] [] (ti.elem.isSome=true)
  |_,_=> .no
 | .d (.agg ds),.d (.agg es)=>
  match q,rG ds,rG es with
  |some n,some xs,some ys=>
   match op with
   | .eql=> .res (.d (.v (.bool (xs==ys)))) [] [] (xs.length=n/\ys.length=n)
   | .neq=> .res (.d (.v (.bool (xs !=ys)))) [] [] (xs.length=n/\ys.length=n)
   |_=> .no
  |_,_,_=> .no
 |_,_=> .no
def Pf (ti:Option TI)(op:BinOp)(x:PV):SR:=
 match ti,op,x with
 |some ti,.eql,.d .nei=> .res (.d (.v (.bool false))) [] [] (ti.kind=5)
 |some ti,.neq,.d .nei=> .res (.d (.v (.bool true))) [] [] (ti.kind=5)
 |some ti,.eql,.d (.v .nilIface)=> .res (.d (.v (.bool true))) [] [] (ti.kind=5)
 |some ti,.neq,.d (.v .nilIface)=> .res (.d (.v (.bool false))) [] [] (ti.kind=5)
 |_,_,_=> .no
def yw (ti:Option TI)(f:Nat)(x:PV):SR:=
 match ti with
 |some ti=>
  match ti.fields[f]? with
  |some (off,sz)=>
   match x with
   | .d (.ept ds)=> .res (.d (.ept (ds.drop off))) [] [] (sz≠0)
   | .ptr k o'=> .res (.ptr k (o'+off)) [] [] (sz≠0)
   | .rp k g sz' i j=> .res (.rp k g sz' i (j+off)) [] [] (sz≠0)
   |_=> .no
  |none=> .no
 |none=> .no
def Ft (ti:Option TI)(h:Nat->Chunk)(x:PV):SR:=
 match ti with
 |some ti=>
  match x with
  | .d (.ept ds)=>
   if ti.agg then .res (.d (.agg (ds.take ti.size))) [] [] (ti.size<=ds.length)
   else match ds with
    |d::_=> .res (.d d) [] [] (ti.size=1)
    |[]=> .no
  | .ptr k off=>
   match h k with
   | .box _ cells=>
    if ti.agg then .res (uO ((cells.drop off).take ti.size)) [] [k] (off+ti.size<=cells.length)
    else match cells.drop off with
     |p::_=> .res p [] [k] (ti.size=1)
     |[]=> .no
   |_=> .no
  | .rp k g sz i j=>
   match h k with
   | .row _ sz' g' rows=>
    match rows[i]? with
    |some row=>
     if ti.agg then .res (uO ((row.drop j).take ti.size)) [] [k] (g=g'/\sz=sz'/\j+ti.size<=sz)
     else match row.drop j with
      |p::_=> .res p [] [k] (g=g'/\sz=sz'/\ti.size=1/\j+1<=sz)
      |[]=> .no
    |none=> .no
   |_=> .no
  |_=> .no
 |none=> .no
def yx (T:Nat->Option TI)(ti:Option TI)(h:Nat->Chunk)(x y:PV):SR:=
 match ti with
 |some ti=>
  match ti.elem with
  |some e=>
   match T e with
   |some te=>
    match y with
    | .d (.v (.int _ n))=>
     match x with
     | .d (.sl sz rows)=>match rows[n.toNat]? with|some row=> .res (.d (.ept row)) [] [] (te.size=sz/\0<=n)|none=> .no
     | .own k g=>
      match h k with
      | .row e' sz g' rows=> .res (.rp k g sz n.toNat 0) [] [k] (e'=e/\g'=g/\te.size=sz/\0<=n/\n.toNat < rows.length)
      |_=> .no
     | .osl k g sz st m=> .res (.rp k g sz (st+n.toNat) 0) [] [] (te.size=sz/\0<=n/\n.toNat < m)
     |_=> .no
    |_=> .no
   |none=> .no
  |none=>
   match ti.arr,x,y with
   |some (m,e),.ptr k off,.d (.v (.int _ n))=>
    match T e with
    |some te=> .res (.ptr k (off+n.toNat*te.size)) [] [] (0<=n/\n.toNat < m)
    |none=> .no
   |_,_,_=> .no
 |none=> .no
def yy (T:Nat->Option TI)(ti:Option TI)(x y:PV):SR:=
 match ti with
 |some ti=>
  match x,y with
  | .d (.v (.string a)),.d (.v (.int _ n))=> .res (.d (.v (.int .u8 (DB a n.toNat)))) [] [] (ti.kind=2/\0<=n/\n.toNat < a.size)
  | .d (.agg ds),.d (.v (.int _ n))=>
   match ti.arr with
   |some (m,e)=>
    match T e with
    |some te=>match ds[n.toNat]? with|some q=> .res (.d q) [] [] (te.size=1/\te.agg=false/\0<=n/\n.toNat < m)|none=> .no
    |none=> .no
   |none=> .no
  |_,_=> .no
 |none=> .no
def BX (x:PV)(i:Nat):SR:=
 match x with
 | .d (.tup ds)=>match ds[i]? with|some d=> .res (.d d) [] [] True|none=> .no
 | .tup ds=>match ds[i]? with|some d=> .res d [] [] True|none=> .no
 |_=> .no
def uV (e:cu):List (Nat × Operand)->Option (List (Nat × List PV))
 |[]=>some []
 |(i,x)::l=>
  if BM (dX e x)then
   match uV e l with
   |some pd=>some ((i,cX (dX e x))::pd)
   |none=>none
  else none
def yz (T:Nat->Option TI)(ti:Option TI)(e:cu)(parts:List (Nat × Operand)):SR:=
 match ti with
 |some ti=>
  match ti.fields with
  |[]=>
   match ti.arr with
   |some (n,el)=>
    match T el,uV e parts with
    |some te,some pd=>
     match rH ((X8 n).map fun i=>(i*te.size,te.size)) (ti.zero.map fun x=> .d (.v x)) pd with
     |some out=> .res (uO out) [] [] True
     |none=> .no
    |_,_=> .no
   |none=> .no
  |_::_=>
   match uV e parts with
   |some pd=>
    match rH ti.fields (ti.zero.map fun x=> .d (.v x)) pd with
    |some out=> .res (uO out) [] [] True
    |none=> .no
   |none=> .no
 |none=> .no
def Fu (e:cu):Nat->List (Nat × Operand)->Option (List (List PV))
 |_,[]=>some []
 |n,(i,x)::l=>
  if BM (dX e x)&&(i==n)then
   match Fu e (n+1) l with
   |some rows=>some (cX (dX e x)::rows)
   |none=>none
  else none
def dsR:List (List PV)->Option (List (List D))
 |[]=>some []
 |r::l=>match yj r,dsR l with|some d,some ds=>some (d::ds)|_,_=>none
def yA (sz:Nat):List (List PV)->Prop
 |[]=>True
 |r::l=>r.length=sz/\yA sz l
def Pg (T:Nat->Option TI)(ti:Option TI)(nk:Nat)(e:cu)(n:Nat)(parts:List (Nat × Operand)):SR:=
 match ti with
 |some ti=>
  match ti.elem with
  |some el=>
   match T el with
   |some te=>
    match n,parts with
    |0,[]=> .res (.own nk 0) [(nk,.row el te.size 0 [])] [nk] True
    |n+1,parts=>
     match Fu e 0 parts with
     |some rows=>
      match (if te.kind=2 then none else dsR rows)with
      |some ds=> .res (.d (.sl te.size ds)) [] [] (0 < te.size/\(n+1)*te.size<=16777216/\rows.length=n+1/\yA te.size rows)
      |none=> .res (.own nk 0) [(nk,.row el te.size 0 rows)] [nk] (0 < te.size/\(n+1)*te.size<=16777216/\rows.length=n+1/\yA te.size rows)
     |none=> .no
    |_,_=> .no
   |none=> .no
  |none=> .no
 |none=> .no
def Fv (T:Nat->Option TI)(ti:Option TI)(nk:Nat)(x y:PV):SR:=
 match ti with
 |some ti=>
  match ti.elem with
  |some el=>
   match T el with
   |some te=>
    match te.zero,x,y with
    |[zv],.d (.v (.int _ n)),.d (.v (.int _ m))=> .res (.own nk 0) [(nk,.row el 1 0 (XY n.toNat [.d (.v zv)]))] [nk] (n=m/\0 < n/\(te.bytes:Int)*n<=281474976710656/\n<=9223372036854775807)
    |_,_,_=> .no
   |none=> .no
  |none=> .no
 |none=> .no
def Fw (T:Nat->Option TI)(ts td:Option TI)(x:PV):SR:=
 match ts,td with
 |some ts,some td=>
  match td.int,x with
  |some k,.d (.v (.int _ n))=> .res (.d (.v (.int k (k.wrap n)))) [] [] True
  |none,.d (.sl 1 rows)=>
   match ts.elem with
   |some e=>
    match T e with
    |some te=>match p4 rows with|some xs=> .res (.d (.v (.string (strOfNums xs)))) [] [] (te.int=some .u8/\td.kind=2)|none=> .no
    |none=> .no
   |none=> .no
  |_,_=> .no
 |_,_=> .no
def Ph (ti:Option TI)(h:Nat->Chunk)(x:PV):SR:=
 match ti with
 |some ti=>
  match ti.elem with
  |some _=>
   match x with
   | .d (.sl _ rows)=> .res (.d (.v (.int .i64 rows.length))) [] [] True
   | .d (.v (.slice none 0 0))=> .res (.d (.v (.int .i64 (0:Nat)))) [] [] True
   | .own k g=>match h k with| .row _ _ g' rows=> .res (.d (.v (.int .i64 rows.length))) [] [k] (g=g')|_=> .no
   | .osl _ _ _ _ n=> .res (.d (.v (.int .i64 n))) [] [] True
   |_=> .no
  |none=>match x with| .d (.v (.string a))=> .res (.d (.v (.int .i64 a.size))) [] [] (ti.kind=2)|_=> .no
 |none=> .no
def Tq (h:Nat->Chunk)(sz:Nat)(y:PV):Option (List (List PV) × List Nat):=
 match y with
 | .d (.sl sz' news)=>if sz'=sz then some (ab news,[])else none
 | .d (.v (.slice _ 0 _))=>some ([],[])
 | .own k g=>match h k with| .row _ sz' g' rows=>if sz'=sz/\g'=g then some (rows,[k])else none|_=>none
 | .osl k g sz' st n=>match h k with| .row _ sz'' g' rows=>if sz'=sz/\sz''=sz/\g'=g then some ((rows.drop st).take n,[k])else none|_=>none
 |_=>none
def Pj (T:Nat->Option TI)(ti:Option TI)(nk:Nat)(h:Nat->Chunk)(x y:PV):SR:=
 match ti with
 |some ti=>
  match ti.elem with
  |some el=>
   match T el with
   |some te=>
    if te.size=0\/te.bytes=0 then .no else
    match Tq h te.size y with
    |some (news,ty)=>
     match x with
     | .own k g=>
      match h k with
      | .row e' sz g' rows=> .res (.own k (g+1)) [(k,.row e' sz (g+1) (rows++news))] (k::ty) (e'=el/\g'=g/\te.size=sz/\(rows.length+news.length)*te.bytes<=140737488355328)
      |_=> .no
     | .d (.v (.slice none 0 0))=> .res (.own nk 0) [(nk,.row el te.size 0 news)] (nk::ty) (news.length*te.bytes<=140737488355328)
     | .osl k g sz st n=>
      match h k with
      | .row e' sz' g' rows=> .res (.osl k g sz 0 (n+news.length)) [(k,.row e' sz' g' (aB rows n news))] (k::ty) (st=0/\e'=el/\g'=g/\sz'=sz/\te.size=sz/\rows≠[]/\n+news.length<=rows.length)
      |_=> .no
     |_=> .no
    |none=> .no
   |none=> .no
  |none=> .no
 |none=> .no
def yB (ti:Option TI)(h:Nat->Chunk)(dst:Option Nat)(x y:PV):SR:=
 match ti,dst with
 |some ti,none=>
  match x with
  | .ptr k off=>
   match h k with
   | .box T cells=>if BM y then .res .any [(k,.box T (aB cells off (cX y)))] [k] ((cX y).length=ti.size/\off+ti.size<=cells.length)else .no
   |_=> .no
  | .rp k g sz i j=>
   match h k with
   | .row E sz' g' rows=>
    match rows[i]? with
    |some row=>if BM y then .res .any [(k,.row E sz' g' (rows.set i (aB row j (cX y))))] [k] (g=g'/\sz=sz'/\(cX y).length=ti.size/\j+ti.size<=sz)else .no
    |none=> .no
   |_=> .no
  |_=> .no
 |_,_=> .no
def yC (T:Nat->Option TI)(ti:Option TI)(h:Nat->Chunk)(x:PV)(lo hi mx:Option PV):SR:=
 match ti with
 |some ti=>
  match ti.elem with
  |some e=>
   match T e with
   |some te=>
    match mx with
    |none=>
     match x with
     | .d (.sl sz rows)=>
      match J9 lo,Ka rows.length hi with
      |some l,some r=> .res (.d (.sl sz ((rows.take r).drop l))) [] [] (te.size=sz/\l<=r/\r<=rows.length)
      |_,_=> .no
     | .own k g=>
      match h k with
      | .row e' sz g' []=>
       match J9 lo,Ka 0 hi with
       |some l,some r=> .res .any [] [k] (e'=e/\g'=g/\te.size=sz/\l=0/\r=0)
       |_,_=> .no
      | .row e' sz g' rows=>
       match J9 lo,Ka rows.length hi with
       |some l,some r=> .res (.osl k g sz l (r - l)) [] [k] (e'=e/\g'=g/\te.size=sz/\rows≠[]/\l<=r/\r<=rows.length)
       |_,_=> .no
      |_=> .no
     | .osl k g sz st n=>
      match h k with
      | .row e' sz' g' rows=>
       match J9 lo,Ka n hi with
       |some l,some r=> .res (.osl k g sz (st+l) (r - l)) [] [k] (e'=e/\g'=g/\sz'=sz/\te.size=sz/\rows≠[]/\l<=r/\st+r<=rows.length)
       |_,_=> .no
      |_=> .no
     |_=> .no
    |some m=>
     match x,lo,hi,m with
     | .own k g,some (.d (.v (.int _ n1))),some (.d (.v (.int _ n2))),.d (.v (.int _ n3))=>
      match h k with
      | .row e' sz g' rows=> .res .any [] [k] (e'=e/\g'=g/\te.size=sz/\rows≠[]/\0<=n1/\n1<=n2/\n2<=n3/\n3<=(rows.length:Int))
      |_=> .no
     |_,_,_,_=> .no
   |none=> .no
  |none=>
   match x,mx with
   | .d (.v (.string a)),none=>
    match J9 lo,Ka a.size hi with
    |some l,some r=> .res (.d (.v (.string (a.extract l r)))) [] [] (ti.kind=2/\l<=r/\r<=a.size)
    |_,_=> .no
   |_,_=> .no
 |none=> .no
def yD (T:Nat->Option TI)(ti:Option TI)(h:Nat->Chunk)(x:PV):SR:=
 match ti with
 |some ti=>
  match ti.elem with
  |some e=>
   match T e with
   |some te=>
    match x with
    | .osl k g sz st n=>
     match h k with
     | .row e' sz' g' rows=> .res (.d (.v (.tuple #[]))) [(k,.row e' sz' g' (aB rows st (XY n (te.zero.map fun x=> .d (.v x)))))] [k] (e'=e/\g'=g/\sz'=sz/\te.size=sz/\rows≠[]/\st+n<=rows.length)
     |_=> .no
    |_=> .no
   |none=> .no
  |none=> .no
 |none=> .no
def p5 (ti:Option TI)(nk:Nat):SR:=
 match ti with
 |some ti=>
  match ti.mp with
  |some (n,sB)=> .res (.mref nk) [(nk,.mp n sB [])] [nk] True
  |none=> .no
 |none=> .no
def tC (ti:Option TI)(h:Nat->Chunk)(m x:PV)(ok:Bool):SR:=
 match ti with
 |some ti=>
  match ti.mp with
  |some (n,sB)=>
   match m with
   | .mref k=>
    match h k with
    | .mp n' sB' ents=>
     match Ix sB x with
     |some xs=> .res (if ok then .d (.tup [.v (.int .i64 ((lV ents xs).getD 0)),.v (.bool (lV ents xs).isSome)])else .d (.v (.int .i64 ((lV ents xs).getD 0)))) [] [k] (n'=n/\sB'=sB/\xs.length=n)
     |none=> .no
    |_=> .no
   |_=> .no
  |none=> .no
 |none=> .no
def uW (ti:Option TI)(h:Nat->Chunk)(dst:Option Nat)(m x y:PV):SR:=
 match ti,dst with
 |some ti,none=>
  match ti.mp with
  |some (n,sB)=>
   match m with
   | .mref k=>
    match h k with
    | .mp n' sB' ents=>
     match Ix sB x,y with
     |some xs,.d (.v (.int .i64 v))=> .res .any [(k,.mp n' sB' (nT ents xs v))] [k] (n'=n/\sB'=sB/\xs.length=n)
     |_,_=> .no
    |_=> .no
   |_=> .no
  |none=> .no
 |_,_=> .no
def yE (ti:Option TI)(h:Nat->Chunk)(nk:Nat)(m:PV):SR:=
 match ti with
 |some ti=>
  match ti.mp with
  |some (n,sB)=>
   match m with
   | .mref k=>
    match h k with
    | .mp n' sB' ents=> .res (.ptr nk 0) [(nk,.it n' sB' ents []),(k,.gone)] [k,nk] (n'=n/\sB'=sB)
    |_=> .no
   |_=> .no
  |none=> .no
 |none=> .no
def yF (h:Nat->Chunk)(x:PV):SR:=
 match x with
 | .ptr k 0=>
  match h k with
  | .it _ _ ents seen=>
   match seen.getLast? with
   |some i=>
    match ents[i]? with
    |some kv=> .res (.tup [.any,.d (.v (.int .i64 kv.2))]) [] [k] True
    |none=> .no
   |none=> .no
  |_=> .no
 |_=> .no
def Fx (f:PV)(args:List PV):SR:=
 match f with
 | .clo g caps=> .call g (args++caps)
 | .d (.clo g cd)=> .call g (args++cd.map .d)
 |_=> .no
def SL (T:Nat->Option TI)(Q:Nat->Option Nat)(e:cu)(hl:List Chunk)(o:Oper):SR:=
 match o.op with
 | .move x=> .res (dX e x) [] [] True
 | .assign x=> .res (dX e x) [] [] True
 | .pick c a b=>tB (dX e c) (dX e a) (dX e b)
 | .unOp op _ x=>unS op (dX e x)
 | .nilCheck x=>Pd (dX e x)
 | .binOp op t x (.const .nilIface) _=>Pf (T t) op (dX e x)
 | .binOp op t x y _=>Pe (T t) (Q t) op (dX e x) (dX e y)
 | .fieldAddr t x f=>yw (T t) f (dX e x)
 | .load t x=>Ft (T t) (aD hl) (dX e x)
 | .indexAddr t x y=>yx T (T t) (aD hl) (dX e x) (dX e y)
 | .index t x y=>yy T (T t) (dX e x) (dX e y)
 | .extract x i=>BX (dX e x) i
 | .alloc t=>match T t with|some ti=> .res (.ptr hl.length 0) [(hl.length,.box t (ti.zero.map fun x=> .d (.v x)))] [hl.length] True|none=> .no
 | .box t x=>if BM (dX e x)then .res (.ptr hl.length 0) [(hl.length,.box t (cX (dX e x)))] [hl.length] True else .no
 | .store t x y=>yB (T t) (aD hl) o.dst (dX e x) (dX e y)
 | .build t ⟨parts⟩=>yz T (T t) e parts
 | .buildSlice t n ⟨parts⟩=>Pg T (T t) hl.length e n parts
 | .makeFunc (.func g) ⟨[]⟩ ⟨caps⟩=> .res (.clo g (caps.map (dX e))) [] [] True
 | .convert src dst x=>Fw T (T src) (T dst) (dX e x)
 | .call ⟨.builtin .len,⟨[x]⟩,⟨[t]⟩⟩=>Ph (T t) (aD hl) (dX e x)
 | .slice t x lo hi mx=>yC T (T t) (aD hl) (dX e x) (lo.map (dX e)) (hi.map (dX e)) (mx.map (dX e))
 | .call ⟨.builtin .clear,⟨[x]⟩,⟨[t]⟩⟩=>yD T (T t) (aD hl) (dX e x)
 | .call ⟨.builtin .append,⟨[x,y]⟩,⟨[t,t']⟩⟩=>if t=t' then Pj T (T t) hl.length (aD hl) (dX e x) (dX e y)else .no
 | .call ⟨.builtin .min,⟨[x,y]⟩,_⟩=>match dX e x,dX e y with| .d (.v (.int k m)),.d (.v (.int k' n))=>if k=k' then .res (.d (.v (.int k (if n < m then n else m)))) [] [] True else .no|_,_=> .no
 | .call ⟨.builtin .max,⟨[x,y]⟩,_⟩=>match dX e x,dX e y with| .d (.v (.int k m)),.d (.v (.int k' n))=>if k=k' then .res (.d (.v (.int k (if m < n then n else m)))) [] [] True else .no|_,_=> .no
 | .call ⟨.value f,⟨args⟩,_⟩=>Fx (dX e f) (args.map (dX e))
 | .makeSlice t x y=>Fv T (T t) hl.length (dX e x) (dX e y)
 | .makeMap t none=>p5 (T t) hl.length
 | .lookup t m x ok=>tC (T t) (aD hl) (dX e m) (dX e x) ok
 | .range t m=>yE (T t) (aD hl) hl.length (dX e m)
 | .entry x=>yF (aD hl) (dX e x)
 | .mapUpdate t m x y=>uW (T t) (aD hl) o.dst (dX e m) (dX e x) (dX e y)
 | .insert t m x y=>uW (T t) (aD hl) o.dst (dX e m) (dX e x) (dX e y)
 |_=> .no
theorem a4X {p:Prop}(h:p:=by
 unfold Op.equal;show (Op.equalIn (9999+1) t _ _).run P w=_;rw[Op.equalIn,Sem.run_bind,run_underlying h];rfl):p:=h
theorem a5I {p:Prop}(h:p:=by
 have:=tk.kind;rw[hb]at this;cases d<;>simp[rF]at this;exact⟨_,rfl⟩):p:=h
theorem ic:∀(l:List Chunk),aD l l.length= .none
 |[]=>rfl
 |_::l=>ic l
structure TabOK (P:Program)(T:Nat->Option TI)(Q:Nat->Option Nat):Prop where
 t:∀t ti,T t=some ti->aW P t=some ti
 q:∀t n,Q t=some n->E3 P t n
 m:∀t ti n s,T t=some ti->ti.mp=some (n,s)->MapOK P t n s
theorem A3 {P:Program}{t e:Nat}(h:P.underlying t=some (.pointer e))(a:Addr)(w:World):(Op.equal t (.pointer (some a)) (.pointer none)).run P w= .ok false w:=a4X
theorem A4 {P:Program}{t e:Nat}(h:P.underlying t=some (.pointer e))(w:World):(Op.equal t (.pointer none) (.pointer none)).run P w= .ok true w:=a4X
theorem BY {X:Cfg}{ops:Array Oper}{s:FS}{o:Oper}(hd:∀d,o.dst=some d->d < X.n){ti:TI}{op:BinOp}{t t':Nat}{x y:Operand}{r:Bool}(ho:o.op= .binOp op t x y t')(ht:aW X.P t=some ti)(hb:ti.kind=3)(hx:ev s x= .d (.v (.pointer none)))(hy:ev s y= .d (.v (.pointer none)))
 (hr:(op= .eql/\r=true)\/(op= .neq/\r=false)):bO X ops s o {pv:= .d (.v (.bool r))}:=
 aN hd fun s' he _ a w c hc=>by
  have h1:=dt hc ((he x (by simp[ho,Op.operands])).trans hx);have h2:=dt hc ((he y (by simp[ho,Op.operands])).trans hy);obtain⟨i,d,z,tk⟩:=jg ht;obtain⟨el,rfl⟩:∃el,d= .pointer el:=a5I
  refine⟨.bool r,?_,.d _ _ (.v _)⟩;rcases hr with⟨rfl,rfl⟩|⟨rfl,rfl⟩<;>simp[execOp,ho,h1,h2,eqGuard,binOp,A4 tk.und]
theorem xe {P:Program}{t e:Nat}(h:P.underlying t=some (.slice e))(a:Option Addr)(n c n' c':Nat)(w:World):(Op.equal t (.slice a n c) (.slice none n' c')).run P w= .ok a.isNone w:=by
 unfold Op.equal;show (Op.equalIn (9999+1) t _ _).run P w=_;rw[Op.equalIn,Sem.run_bind,run_underlying h];cases a<;>rfl
theorem tD {X:Cfg}{ops:Array Oper}{s:FS}{o:Oper}(hd:∀d,o.dst=some d->d < X.n){ti:TI}{op:BinOp}{t t' n' c':Nat}{x y:Operand}{r z:Bool}(ho:o.op= .binOp op t x y t')(ht:aW X.P t=some ti)(hb:ti.elem.isSome=true)
 (hx:(∃sz a l,ev s x= .d (.sl sz (a::l))/\z=false)\/∃ao n c,ev s x= .d (.v (.slice ao n c))/\z=ao.isNone) (hy:ev s y= .d (.v (.slice none n' c')))
 (hr:(op= .eql/\r=z)\/(op= .neq/\r=!z)):bO X ops s o {pv:= .d (.v (.bool r))}:=
 aN hd fun s' he _ a w c hc=>by
  have e1:=bR hc x;rw[he x (by simp[ho,Op.operands])]at e1;have h2:=dt hc ((he y (by simp[ho,Op.operands])).trans hy);generalize hu:a.eval x=u at e1;obtain⟨i,d,zz,tk⟩:=jg ht;obtain⟨el,rfl⟩:∃el,d= .slice el:=by
   have:=tk.elem;obtain⟨el,hel⟩:=Zo.1 hb;rw[hel]at this;cases d<;>simp[hO]at this;exact⟨_,rfl⟩
  obtain⟨ao,n,cap,rfl,hz⟩:∃ao n cap,u= .slice ao n cap/\z=ao.isNone:=by
   rcases hx with⟨sz,b,l,hx,rfl⟩|⟨ao,n,cap,hx,rfl⟩
   ·rw[hx]at e1;have e1:=cn e1;cases e1 with
    |sl _ _ b off cap=>exact⟨_,_,cap,rfl,rfl⟩
   ·rw[hx]at e1;have e1:=cn e1;cases e1;exact⟨_,_,_,rfl,rfl⟩
  subst hz;refine⟨.bool r,?_,.d _ _ (.v _)⟩;rcases hr with⟨rfl,rfl⟩|⟨rfl,rfl⟩<;>simp[execOp,ho,hu,h2,eqGuard,binOp,xe tk.und]
theorem lW {X:Cfg}{ops:Array Oper}{s:FS}{o:Oper}(hd:∀d,o.dst=some d->d < X.n){ti:TI}{op:BinOp}{t t':Nat}{x y:Operand}{r:Bool}(ho:o.op= .binOp op t x y t')(ht:aW X.P t=some ti)(hb:ti.kind=3)
 (hx:(∃k off,ev s x= .ptr k off)\/(∃k g sz i j,ev s x= .rp k g sz i j)\/∃ds,ev s x= .d (.ept ds)) (hy:ev s y= .d (.v (.pointer none)))
 (hr:(op= .eql/\r=false)\/(op= .neq/\r=true)):bO X ops s o {pv:= .d (.v (.bool r))}:=
 aN hd fun s' he _ a w c hc=>by
  have h1:∃ad,a.eval x= .pointer (some ad):=by
   have:=bR hc x;rw[he x (by simp[ho,Op.operands])]at this;generalize a.eval x=u at this;rcases hx with⟨k,off,hx⟩|⟨k,g,sz,i,j,hx⟩|⟨ds,hx⟩<;>rw[hx]at this
   ·cases this;exact⟨_,rfl⟩
   ·cases this;exact⟨_,rfl⟩
   ·have:=cn this;cases this;exact⟨_,rfl⟩
  obtain⟨ad,h1⟩:=h1;have h2:=dt hc ((he y (by simp[ho,Op.operands])).trans hy);obtain⟨i,d,z,tk⟩:=jg ht;obtain⟨el,rfl⟩:∃el,d= .pointer el:=a5I
  refine⟨.bool r,?_,.d _ _ (.v _)⟩;rcases hr with⟨rfl,rfl⟩|⟨rfl,rfl⟩<;>simp[execOp,ho,h1,h2,eqGuard,binOp,A3 tk.und]
theorem A5 {X:Cfg}{ops:Array Oper}{s:FS}{o:Oper}(hd:∀d,o.dst=some d->d < X.n){x:Operand}{k g sz i j:Nat}(ho:o.op= .nilCheck x)(hx:ev s x= .rp k g sz i j):bO X ops s o {pv:= .rp k g sz i j}:=
 aN hd fun s' he _ a w c hc=>by
  have:=bR hc x;rw[he x (by simp[ho,Op.operands]),hx]at this;generalize hu:a.eval x=u at this;cases this with
  |rp _ _ _ _ _ b n cap h=>exact⟨_,by simp[execOp,ho,hu],.rp k g sz i j b n cap h⟩
section
variable {X:Cfg}{ops:Array Oper}{e:cu}{hl:List Chunk}{o:Oper}{T:Nat->Option TI}{Q:Nat->Option Nat}(co:TabOK X.P T Q)(hd:∀d,o.dst=some d->d < X.n){p:PV}{eff:List (Nat × Chunk)}{touch:List Nat}{side:Prop}
include hd
theorem Pk {x y z:Operand}(ho:o.op= .pick x y z)(h:tB (dX e x) (dX e y) (dX e z)= .res p eff touch side)(_hs:side):bO X ops (bS e hl) o {pv:=p,eff:=eff,touch:=touch}:=by
 unfold tB at h;split at h
 ·rename_i t hx;have key:=Tj (X:=X) (ops:=ops) (s:=bS e hl) hd ho ((aF e hl x).trans hx);rw[aF,aF]at key;split at h
  ·rename_i a b ha hb;cases h;rw[ha,hb]at key;cases t<;>exact key
  ·cases h;exact key
 ·cases h
theorem Wj {op:UnOp}{t:Nat}{x:Operand}(ho:o.op= .unOp op t x)(h:unS op (dX e x)= .res p eff touch side)(_hs:side):bO X ops (bS e hl) o {pv:=p,eff:=eff,touch:=touch}:=by
 unfold unS at h;split at h
 ·rename_i b hx;cases h;exact Wc hd ho ((aF e hl x).trans hx)
 ·rename_i k n hx;cases h;exact Wd hd ho ((aF e hl x).trans hx)
 ·cases h
theorem Tr {x:Operand}(ho:o.op= .nilCheck x)(h:Pd (dX e x)= .res p eff touch side)(_hs:side):bO X ops (bS e hl) o {pv:=p,eff:=eff,touch:=touch}:=by
 unfold Pd at h;split at h
 ·rename_i k off hx;cases h;have:=wu (X:=X) (ops:=ops) (s:=bS e hl) hd ho (.inl ⟨k,off,(aF e hl x).trans hx⟩);rwa [aF,hx]at this
 ·rename_i k g sz i j hx;cases h;exact A5 hd ho ((aF e hl x).trans hx)
 ·rename_i cs hx;cases h;have:=wu (X:=X) (ops:=ops) (s:=bS e hl) hd ho (.inr ⟨cs,(aF e hl x).trans hx⟩);rwa [aF,hx]at this
 ·cases h
include co in
theorem Ts {op:BinOp}{t t':Nat}{x y:Operand}(ho:o.op= .binOp op t x y t')(h:Pe (T t) (Q t) op (dX e x) (dX e y)= .res p eff touch side)(hs:side):bO X ops (bS e hl) o {pv:=p,eff:=eff,touch:=touch}:=by
 unfold Pe at h;split at h
 ·rename_i k m k' n hx hy;split at h
  ·rename_i hk;subst hk;split at h
   ·cases h;exact BJ hd ho ((aF e hl x).trans hx) ((aF e hl y).trans hy) hs (.inl ⟨rfl,rfl⟩)
   ·cases h;exact BJ hd ho ((aF e hl x).trans hx) ((aF e hl y).trans hy) hs (.inr ⟨rfl,rfl⟩)
   ·split at h
    ·rename_i r hr;cases h;exact We hd ho ((aF e hl x).trans hx) ((aF e hl y).trans hy) hr
    ·cases h
  ·split at h
   ·split at h
    ·rename_i r hr;cases h;exact Fs hd ho (.inl rfl) ((aF e hl x).trans hx) ((aF e hl y).trans hy) hr
    ·cases h
   ·split at h
    ·rename_i r hr;cases h;exact Fs hd ho (.inr rfl) ((aF e hl x).trans hx) ((aF e hl y).trans hy) hr
    ·cases h
   ·cases h
 ·rename_i m n hx hy;split at h
  ·cases h;exact Mh hd ho ((aF e hl x).trans hx) ((aF e hl y).trans hy) hs
  ·cases h;exact Fm hd ho ((aF e hl x).trans hx) ((aF e hl y).trans hy) (.inl ⟨rfl,rfl⟩)
  ·cases h;exact Fm hd ho ((aF e hl x).trans hx) ((aF e hl y).trans hy) (.inr ⟨rfl,rfl⟩)
  ·cases h
 ·rename_i m n hx hy;split at h
  ·rename_i ti ht;cases h;exact BK hd ho (co.t t _ ht) hs ((aF e hl x).trans hx) ((aF e hl y).trans hy) (.inl ⟨rfl,rfl⟩)
  ·rename_i ti ht;cases h;exact BK hd ho (co.t t _ ht) hs ((aF e hl x).trans hx) ((aF e hl y).trans hy) (.inr ⟨rfl,rfl⟩)
  ·cases h
 ·rename_i hx hy;split at h
  ·rename_i ti ht;cases h;exact BY hd ho (co.t t _ ht) hs ((aF e hl x).trans hx) ((aF e hl y).trans hy) (.inl ⟨rfl,rfl⟩)
  ·rename_i ti ht;cases h;exact BY hd ho (co.t t _ ht) hs ((aF e hl x).trans hx) ((aF e hl y).trans hy) (.inr ⟨rfl,rfl⟩)
  ·cases h
 ·rename_i k off hx hy;split at h
  ·rename_i ti ht;cases h;exact lW hd ho (co.t t _ ht) hs (.inl ⟨k,off,(aF e hl x).trans hx⟩) ((aF e hl y).trans hy) (.inl ⟨rfl,rfl⟩)
  ·rename_i ti ht;cases h;exact lW hd ho (co.t t _ ht) hs (.inl ⟨k,off,(aF e hl x).trans hx⟩) ((aF e hl y).trans hy) (.inr ⟨rfl,rfl⟩)
  ·cases h
 ·rename_i k g sz i j hx hy;split at h
  ·rename_i ti ht;cases h;exact lW hd ho (co.t t _ ht) hs (.inr (.inl ⟨k,g,sz,i,j,(aF e hl x).trans hx⟩)) ((aF e hl y).trans hy) (.inl ⟨rfl,rfl⟩)
  ·rename_i ti ht;cases h;exact lW hd ho (co.t t _ ht) hs (.inr (.inl ⟨k,g,sz,i,j,(aF e hl x).trans hx⟩)) ((aF e hl y).trans hy) (.inr ⟨rfl,rfl⟩)
  ·cases h
 ·rename_i ds hx hy;split at h
  ·rename_i ti ht;cases h;exact lW hd ho (co.t t _ ht) hs (.inr (.inr ⟨ds,(aF e hl x).trans hx⟩)) ((aF e hl y).trans hy) (.inl ⟨rfl,rfl⟩)
  ·rename_i ti ht;cases h;exact lW hd ho (co.t t _ ht) hs (.inr (.inr ⟨ds,(aF e hl x).trans hx⟩)) ((aF e hl y).trans hy) (.inr ⟨rfl,rfl⟩)
  ·cases h
 ·rename_i sz a l n' c' hx hy;split at h
  ·rename_i ti ht;cases h;exact tD hd ho (co.t t _ ht) hs (.inl ⟨_,_,_,(aF e hl x).trans hx,rfl⟩) ((aF e hl y).trans hy) (.inl ⟨rfl,rfl⟩)
  ·rename_i ti ht;cases h;exact tD hd ho (co.t t _ ht) hs (.inl ⟨_,_,_,(aF e hl x).trans hx,rfl⟩) ((aF e hl y).trans hy) (.inr ⟨rfl,rfl⟩)
  ·cases h
 ·rename_i ao n c n' c' hx hy;split at h
  ·rename_i ti ht;cases h;exact tD hd ho (co.t t _ ht) hs (.inr ⟨_,_,_,(aF e hl x).trans hx,rfl⟩) ((aF e hl y).trans hy) (.inl ⟨rfl,rfl⟩)
  ·rename_i ti ht;cases h;exact tD hd ho (co.t t _ ht) hs (.inr ⟨_,_,_,(aF e hl x).trans hx,rfl⟩) ((aF e hl y).trans hy) (.inr ⟨rfl,rfl⟩)
  ·cases h
 ·rename_i ds es hx hy;split at h
  ·rename_i n xs ys hq h1 h2;split at h
   ·cases h;exact E4 hd ho (co.q t n hq) (.inl rfl) ((aF e hl x).trans hx) ((aF e hl y).trans hy) h1 h2 hs.1 hs.2
   ·cases h;have:=E4 (X:=X) (ops:=ops) (s:=bS e hl) hd ho (co.q t n hq) (.inr rfl) ((aF e hl x).trans hx) ((aF e hl y).trans hy) h1 h2 hs.1 hs.2;simpa using this
   ·cases h
  ·cases h
 ·cases h
include co in
theorem Mk {t f:Nat}{x:Operand}(ho:o.op= .fieldAddr t x f)(h:yw (T t) f (dX e x)= .res p eff touch side)(hs:side):bO X ops (bS e hl) o {pv:=p,eff:=eff,touch:=touch}:=by
 unfold yw at h;split at h
 ·rename_i ti ht;split at h
  ·rename_i off sz hf;split at h
   ·rename_i ds hx;cases h;exact OY hd ho (co.t t ti ht) hf hs ((aF e hl x).trans hx)
   ·rename_i k o' hx;cases h;exact E6 hd ho (co.t t ti ht) hf hs ((aF e hl x).trans hx)
   ·rename_i k g sz' i j hx;cases h;exact Iq hd ho (co.t t ti ht) hf hs ((aF e hl x).trans hx)
   ·cases h
  ·cases h
 ·cases h
omit hd in
theorem uX {α:Type}{l:List α}{j:Nat}{d:α}{r:List α}(h:l.drop j=d::r):l[j]? =some d:=by
 have:=Yl (xs:=l) (i:=j) (j:=0);rw[h]at this;simpa using this.symm
include co in
theorem Pl {t:Nat}{x:Operand}(ho:o.op= .load t x)(h:Ft (T t) (aD hl) (dX e x)= .res p eff touch side)(hs:side):bO X ops (bS e hl) o {pv:=p,eff:=eff,touch:=touch}:=by
 unfold Ft at h;split at h
 ·rename_i ti ht;have ht:=co.t t ti ht;split at h
  ·rename_i ds hx;have hx:=(aF e hl x).trans hx;split at h
   ·rename_i rm;cases h;exact E7 hd ho ht hx hs (.inl ⟨rm,rfl⟩)
   ·rename_i rm;split at h
    ·rename_i d r;cases h;have hs':ti.size=1:=hs;exact E7 hd ho ht hx (by rw[hs'];simp) (.inr ⟨by simpa using rm,hs',rfl⟩)
    ·cases h
  ·rename_i k off hx;have hx:=(aF e hl x).trans hx;split at h
   ·rename_i TT cells hk;split at h
    ·rename_i rm;cases h;exact E8 hd ho ht hx (s:=bS e hl) hk hs (.inl ⟨rm,rfl⟩)
    ·rename_i rm;split at h
     ·rename_i q r hc;cases h;have hs':ti.size=1:=hs;have hc':=uX hc;exact E8 hd ho ht hx (s:=bS e hl) hk (by have:=(Xn.1 hc').1;omega) (.inr ⟨by simpa using rm,hs',hc'⟩)
     ·cases h
   ·cases h
  ·rename_i k g sz i j hx;have hx:=(aF e hl x).trans hx;split at h
   ·rename_i E sz' g' rows hk;split at h
    ·rename_i row bV;split at h
     ·rename_i rm;cases h;obtain⟨rfl,rfl,hj⟩:=hs;exact BO hd ho ht hx (s:=bS e hl) hk bV hj (.inl ⟨rm,rfl⟩)
     ·rename_i rm;split at h
      ·rename_i d r hc;cases h;obtain⟨rfl,rfl,hs',hj⟩:=hs;have hc':=uX hc;exact BO hd ho ht hx (s:=bS e hl) hk bV aa (.inr ⟨by simpa using rm,hs',hc'⟩)
      ·cases h
    ·cases h
   ·cases h
  ·cases h
 ·cases h
include co in
theorem Tt {op:BinOp}{t t':Nat}{x:Operand}(ho:o.op= .binOp op t x (.const .nilIface) t')(h:Pf (T t) op (dX e x)= .res p eff touch side)(hs:side):bO X ops (bS e hl) o {pv:=p,eff:=eff,touch:=touch}:=by
 unfold Pf at h;split at h
 ·rename_i ti ht hx;cases h;exact tz hd ho (co.t _ _ ht) hs ((aF e hl x).trans hx) (.inl rfl) (.inl ⟨rfl,rfl⟩)
 ·rename_i ti ht hx;cases h;exact tz hd ho (co.t _ _ ht) hs ((aF e hl x).trans hx) (.inl rfl) (.inr ⟨rfl,rfl⟩)
 ·rename_i ti ht hx;cases h;exact tz hd ho (co.t _ _ ht) hs ((aF e hl x).trans hx) (.inr rfl) (.inl ⟨rfl,rfl⟩)
 ·rename_i ti ht hx;cases h;exact tz hd ho (co.t _ _ ht) hs ((aF e hl x).trans hx) (.inr rfl) (.inr ⟨rfl,rfl⟩)
 ·cases h
include co in
theorem Ml {t:Nat}{x y:Operand}(ho:o.op= .indexAddr t x y)(h:yx T (T t) (aD hl) (dX e x) (dX e y)= .res p eff touch side)(hs:side):bO X ops (bS e hl) o {pv:=p,eff:=eff,touch:=touch}:=by
 unfold yx at h;split at h
 ·rename_i ti ht;split at h
  ·rename_i el he;split at h
   ·rename_i te iH;split at h
    ·rename_i kd n hy;have hy:=(aF e hl y).trans hy;split at h
     ·rename_i sz rows hx;split at h
      ·rename_i row bV;cases h;exact O1 hd ho (co.t t ti ht) he (co.t el te iH) hs.1 ((aF e hl x).trans hx) hy hs.2 bV
      ·cases h
     ·rename_i k g hx;split at h
      ·rename_i e' sz g' rows hk;cases h;obtain⟨rfl,rfl,h1,h2,h3⟩:=hs;exact Fb hd ho (co.t t ti ht) he (co.t _ te iH) h1 ((aF e hl x).trans hx) (s:=bS e hl) hk hy h2 h3
      ·cases h
     ·rename_i k g sz st m hx;cases h;exact Fh hd ho (co.t t ti ht) he (co.t _ te iH) hs.1 ((aF e hl x).trans hx) (s:=bS e hl) hy hs.2.1 hs.2.2
     ·cases h
    ·cases h
   ·cases h
  ·split at h
   ·rename_i m el k off kd n ha hx hy;split at h
    ·rename_i te iH;cases h;exact IC hd ho (co.t t ti ht) ha (co.t el te iH) rfl ((aF e hl x).trans hx) ((aF e hl y).trans hy) hs.1 hs.2
    ·cases h
   ·cases h
 ·cases h
include co in
theorem Mm {t:Nat}{x y:Operand}(ho:o.op= .index t x y)(h:yy T (T t) (dX e x) (dX e y)= .res p eff touch side)(hs:side):bO X ops (bS e hl) o {pv:=p,eff:=eff,touch:=touch}:=by
 unfold yy at h;split at h
 ·rename_i ti ht;split at h
  ·rename_i a kd n hx hy;cases h;exact Fn hd ho (co.t t ti ht) hs.1 ((aF e hl x).trans hx) ((aF e hl y).trans hy) hs.2.1 hs.2.2
  ·rename_i ds kd n hx hy;split at h
   ·rename_i m el ha;split at h
    ·rename_i te iH;split at h
     ·rename_i q hq;cases h;exact Fq hd ho (co.t t ti ht) ha (co.t el te iH) hs.1 hs.2.1 ((aF e hl x).trans hx) ((aF e hl y).trans hy) hs.2.2.1 hs.2.2.2 hq
     ·cases h
    ·cases h
   ·cases h
  ·cases h
 ·cases h
theorem Pm {x:Operand}{i:Nat}(ho:o.op= .extract x i)(h:BX (dX e x) i= .res p eff touch side)(_hs:side):bO X ops (bS e hl) o {pv:=p,eff:=eff,touch:=touch}:=by
 unfold BX at h;split at h
 ·rename_i ds hx;split at h
  ·rename_i d hi;cases h;exact Ip hd ho ((aF e hl x).trans hx) hi
  ·cases h
 ·rename_i ds hx;split at h
  ·rename_i d hi;cases h;exact E9 hd ho ((aF e hl x).trans hx) hi
  ·cases h
 ·cases h
omit hd in
theorem uY:∀{parts:List (Nat × Operand)}{pd:List (Nat × List PV)},uV e parts=some pd->pd.length=parts.length/\∀(j:Nat) (i:Nat) (x:Operand),parts[j]? =some (i,x)->pd[j]? =some (i,cX (dX e x))/\BM (dX e x)=true
 |[],pd,h=>by cases h;simp
 |(i,x)::l,pd,h=>by
  unfold uV at h;split at h
  ·rename_i bJ;split at h
   ·rename_i pd' h2;cases h;obtain⟨q1,q2⟩:=uY h2;refine⟨by simp[q1],fun j i' y hj=>?_⟩;cases j with
    |zero=>
     simp at hj;obtain⟨rfl,rfl⟩:=hj;exact⟨rfl,bJ⟩
    |succ j=>simpa using q2 j i' y (by simpa using hj)
   ·cases h
  ·cases h
include co in
theorem Mn {t:Nat}{parts:List (Nat × Operand)}(ho:o.op= .build t ⟨parts⟩)(h:yz T (T t) e parts= .res p eff touch side)(_hs:side):bO X ops (bS e hl) o {pv:=p,eff:=eff,touch:=touch}:=by
 unfold yz at h;split at h
 ·rename_i ti ht;split at h
  ·split at h
   ·rename_i n el ha;split at h
    ·rename_i te pd iH hp;split at h
     ·rename_i out hf;cases h;obtain⟨q1,q2⟩:=uY hp;refine Fr hd ho (co.t t ti ht) ha (co.t el te iH) (pd:=pd) (by simpa using q1) (fun j i x hj=>?_) hf;obtain⟨r1,r2⟩:=q2 j i x (by simpa using hj);rw[aF];exact⟨r1,r2⟩
     ·cases h
    ·cases h
   ·cases h
  ·rename_i f fs gX;split at h
   ·rename_i pd hp;split at h
    ·rename_i out hf;cases h;obtain⟨q1,q2⟩:=uY hp;refine O3 hd ho (co.t t ti ht) (by rw[gX];simp) (pd:=pd) (by simpa using q1) (fun j i x hj=>?_) (by rw[<-hf,gX]);obtain⟨r1,r2⟩:=q2 j i x (by simpa using hj);rw[aF];exact⟨r1,r2⟩
    ·cases h
   ·cases h
 ·cases h
omit hd in
theorem Fy:∀{parts:List (Nat × Operand)}{n:Nat}{rows:List (List PV)},Fu e n parts=some rows->parts.length=rows.length/\∀(j:Nat) (i:Nat) (x:Operand),parts[j]? =some (i,x)->
 i=n+j/\rows[j]? =some (cX (dX e x))/\BM (dX e x)=true
 |[],n,rows,h=>by cases h;simp
 |(i,x)::l,n,rows,h=>by
  unfold Fu at h;split at h
  ·rename_i bJ;simp only[Xt,beq_iff_eq]at bJ;split at h
   ·rename_i rows' h2;cases h;obtain⟨q1,q2⟩:=Fy h2;refine⟨by simp[q1],fun j i' y hj=>?_⟩;cases j with
    |zero=>
     simp at hj;obtain⟨rfl,rfl⟩:=hj;exact⟨by omega,rfl,bJ.1⟩
    |succ j=>
     obtain⟨r0,r1,r3⟩:=q2 j i' y (by simpa using hj);exact⟨by omega,by simpa using r1,r3⟩
   ·cases h
  ·cases h
omit hd in
theorem Pn:∀{rows:List (List PV)}{ds:List (List D)},dsR rows=some ds->rows.length=ds.length/\∀(j:Nat) (r:List PV),rows[j]? =some r->∃d,ds[j]? =some d/\yj r=some d
 |[],ds,h=>by cases h;simp
 |r::l,ds,h=>by
  unfold dsR at h;split at h
  ·rename_i d ds' h1 h2;cases h;obtain⟨q1,q2⟩:=Pn h2;refine⟨by simp[q1],fun j x hj=>?_⟩;cases j with
   |zero=>simp at hj;subst hj;exact⟨d,rfl,h1⟩
   |succ j=>simpa using q2 j x (by simpa using hj)
  ·cases h
omit hd in
theorem sf {sz:Nat}:∀{rows:List (List PV)},yA sz rows->∀r∈rows,r.length=sz
 |r::rows,h,q,hq=>by
  rcases X2.1 hq with rfl|hq
  ·exact h.1
  ·exact sf h.2 q hq
include co in
theorem Tu (pA:X.m<=hl.length){t n:Nat}{parts:List (Nat × Operand)}(ho:o.op= .buildSlice t n ⟨parts⟩)(h:Pg T (T t) hl.length e n parts= .res p eff touch side)(hs:side):bO X ops (bS e hl) o {pv:=p,eff:=eff,touch:=touch}:=by
 unfold Pg at h;split at h
 ·rename_i ti ht;split at h
  ·rename_i el he;split at h
   ·rename_i te iH;split at h
    ·cases h;exact yt hd ho (co.t t ti ht) he (co.t el te iH) (s:=bS e hl) (ic hl) aa
    ·rename_i n' parts';split at h
     ·rename_i rows hr;obtain⟨q1,q2⟩:=Fy hr;split at h
      ·rename_i ds dP;have dP:dsR rows=some ds:=by
        by_cases hq:te.kind=2
        ·rw[aj hq]at dP;cases dP
        ·rw[af hq]at dP;exact dP
       cases h;obtain⟨h1,h2,h3,h4⟩:=hs;obtain⟨g1,g2⟩:=Pn dP;refine A0 hd ho (co.t t ti ht) he (co.t el te iH) rfl h1 aa h2 aa aK (fun j i x hj=>?_);obtain⟨r0,r1,r3⟩:=q2 j i x (by simpa using hj);obtain⟨d,g3,g4⟩:=g2 j _ r1;have bB:=sf h4 _ (Xl r1);refine⟨by omega,d,g3,by rw[aF];exact g4,by rw[aF];exact r3,?_⟩;have:=congrArg O' (tt g4);rw[XB]at this;omega
      ·cases h;obtain⟨h1,h2,h3,h4⟩:=hs;refine yr hd ho (co.t t ti ht) he (co.t el te iH) rfl h1 aa h2 h3 aK (s:=bS e hl) (ic hl) aa (fun j i x hj=>?_);obtain⟨r0,r1,r3⟩:=q2 j i x (by simpa using hj);rw[aF];exact⟨by omega,r1,r3,sf h4 _ (Xl r1)⟩
     ·cases h
    ·cases h
   ·cases h
  ·cases h
 ·cases h
include co in
theorem Po (pA:X.m<=hl.length){t:Nat}{x y:Operand}(ho:o.op= .makeSlice t x y)(h:Fv T (T t) hl.length (dX e x) (dX e y)= .res p eff touch side)(hs:side):bO X ops (bS e hl) o {pv:=p,eff:=eff,touch:=touch}:=by
 unfold Fv at h;split at h
 ·rename_i ti ht;split at h
  ·rename_i el he;split at h
   ·rename_i te iH;split at h
    ·rename_i zv kx n ky m hz hx hy;cases h;obtain⟨h1,h2,h3,h4⟩:=hs;subst h1;exact Dy hd ho (co.t t ti ht) he (co.t el te iH) hz h2 h3 h4 (s:=bS e hl) (by rw[aF];exact hx) (by rw[aF];exact hy) (ic hl) aa
    ·cases h
   ·cases h
  ·cases h
 ·cases h
include co in
theorem Pp {src dst:Nat}{x:Operand}(ho:o.op= .convert src dst x)(h:Fw T (T src) (T dst) (dX e x)= .res p eff touch side)(hs:side):bO X ops (bS e hl) o {pv:=p,eff:=eff,touch:=touch}:=by
 unfold Fw at h;split at h
 ·rename_i ts td h1 h2;split at h
  ·rename_i k k' n hi hx;cases h;exact Iz hd ho (co.t _ _ h1) (co.t _ _ h2) hi ((aF e hl x).trans hx)
  ·rename_i rows hi hx;split at h
   ·rename_i el he;split at h
    ·rename_i te iH;split at h
     ·rename_i xs hb;cases h;exact Fp hd ho (co.t _ _ h1) (co.t _ _ h2) he (co.t _ _ iH) hs.1 hs.2 ((aF e hl x).trans hx) hb
     ·cases h
    ·cases h
   ·cases h
  ·cases h
 ·cases h
include co in
theorem Tv {t:Nat}{x:Operand}(ho:o.op= .call ⟨.builtin .len,⟨[x]⟩,⟨[t]⟩⟩)(h:Ph (T t) (aD hl) (dX e x)= .res p eff touch side)(hs:side):bO X ops (bS e hl) o {pv:=p,eff:=eff,touch:=touch}:=by
 unfold Ph at h;split at h
 ·rename_i ti ht;split at h
  ·rename_i el he;split at h
   ·rename_i sz rows hx;cases h;exact O2 (ty:=0) hd ho (co.t _ _ ht) he ((aF e hl x).trans hx) (.inl ⟨_,_,rfl,rfl⟩)
   ·rename_i hx;cases h;exact O2 (ty:=0) hd ho (co.t _ _ ht) he ((aF e hl x).trans hx) (.inr ⟨rfl,rfl⟩)
   ·rename_i k g hx;split at h
    ·rename_i E sz g' rows hk;cases h;subst hs;exact L4 hd ho (co.t _ _ ht) he ((aF e hl x).trans hx) (s:=bS e hl) hk
    ·cases h
   ·rename_i k g sz st n hx;cases h;exact Mc hd ho (co.t _ _ ht) he ((aF e hl x).trans hx)
   ·cases h
  ·split at h
   ·rename_i a hx;cases h;exact Mi hd ho (co.t _ _ ht) hs ((aF e hl x).trans hx)
   ·cases h
 ·cases h
omit hd in
theorem Tw {sz:Nat}{y:PV}{news:List (List PV)}{ty:List Nat}(h:Tq (aD hl) sz y=some (news,ty)):SrcP (bS e hl) sz y news ty:=by
 unfold Tq at h;split at h
 ·split at h
  ·rename_i e1;subst e1;cases h;exact .sl _
  ·cases h
 ·cases h;exact .nil _ _
 ·split at h
  ·rename_i E sz' g' rows hk;split at h
   ·rename_i e1;obtain⟨rfl,rfl⟩:=e1;cases h;exact .own _ _ _ _ hk
   ·cases h
  ·cases h
 ·split at h
  ·rename_i E sz' g' rows hk;split at h
   ·rename_i e1;obtain⟨rfl,rfl,rfl⟩:=e1;cases h;exact .osl _ _ _ _ _ _ hk
   ·cases h
  ·cases h
 ·cases h
include co in
theorem Tx (pA:X.m<=hl.length){t:Nat}{x y:Operand}(ho:o.op= .call ⟨.builtin .append,⟨[x,y]⟩,⟨[t,t]⟩⟩)(h:Pj T (T t) hl.length (aD hl) (dX e x) (dX e y)= .res p eff touch side)(hs:side):bO X ops (bS e hl) o {pv:=p,eff:=eff,touch:=touch}:=by
 unfold Pj at h;split at h
 ·rename_i ti ht;split at h
  ·rename_i el he;split at h
   ·rename_i te iH;split at h
    ·cases h
    ·rename_i hz;have mW:0 < te.size:=aa;have rT:0 < te.bytes:=aa;have big:∀m:Nat,m*te.bytes<=140737488355328->m<=9223372036854775807:=fun m hm=>by
      have:=_j m rT;omega
     split at h
     ·rename_i news ty uw;have uw:=Tw (e:=e) (hl:=hl) uw;rw[<-aF e hl]at uw;split at h
      ·rename_i k g hx;split at h
       ·rename_i e' sz g' rows hk;cases h;obtain⟨rfl,rfl,rfl,hb⟩:=hs;exact L5 hd ho (co.t _ _ ht) he (co.t _ _ iH) rfl mW ((aF e hl x).trans hx) (s:=bS e hl) hk uw (big _ hb) hb
       ·cases h
      ·rename_i hx;cases h;exact Ds hd ho (co.t _ _ ht) he (co.t _ _ iH) rfl mW ((aF e hl x).trans hx) (s:=bS e hl) (ic hl) aa uw (big _ hs) hs
      ·rename_i k g sz st n hx;split at h
       ·rename_i e' sz' g' rows hk;cases h;obtain⟨rfl,rfl,rfl,rfl,rfl,h1,h2⟩:=hs;exact Dt hd ho (co.t _ _ ht) he (co.t _ _ iH) rfl mW ((aF e hl x).trans hx) (s:=bS e hl) hk h1 uw h2
       ·cases h
      ·cases h
     ·cases h
   ·cases h
  ·cases h
 ·cases h
include co in
theorem Mo {t:Nat}{x:Operand}{lo hi mx:Option Operand}(ho:o.op= .slice t x lo hi mx)(h:yC T (T t) (aD hl) (dX e x) (lo.map (dX e)) (hi.map (dX e)) (mx.map (dX e))= .res p eff touch side)(hs:side):bO X ops (bS e hl) o {pv:=p,eff:=eff,touch:=touch}:=by
 have hm:∀y:Option Operand,y.map (dX e)=y.map (ev (bS e hl)):=fun y=>by cases y<;>simp[aF]
 rw[hm lo,hm hi]at h;unfold yC at h;split at h
 ·rename_i ti ht;split at h
  ·rename_i el he;split at h
   ·rename_i te iH;split at h
    ·rename_i Oc;have Oc:mx=none:=by simpa using Oc
     subst Oc;split at h
     ·rename_i sz rows hx;split at h
      ·rename_i l r j0 lh;cases h;exact Ma hd ho (co.t _ _ ht) he (co.t _ _ iH) hs.1 ((aF e hl x).trans hx) j0 lh hs.2.1 hs.2.2
      ·cases h
     ·rename_i k g hx;split at h
      ·rename_i e' sz g' hk;split at h
       ·rename_i l r j0 lh;cases h;obtain⟨rfl,rfl,h1,rfl,rfl⟩:=hs;exact Du hd ho (co.t _ _ ht) he (co.t _ _ iH) h1 ((aF e hl x).trans hx) (s:=bS e hl) hk j0 lh
       ·cases h
      ·rename_i e' sz g' rows bH hk;split at h
       ·rename_i l r j0 lh;cases h;obtain⟨rfl,rfl,h1,h2,h3,h4⟩:=hs;exact Ff hd ho (co.t _ _ ht) he (co.t _ _ iH) h1 ((aF e hl x).trans hx) (s:=bS e hl) hk h2 j0 lh h3 h4
       ·cases h
      ·cases h
     ·rename_i k g sz st n hx;split at h
      ·rename_i e' sz' g' rows hk;split at h
       ·rename_i l r j0 lh;cases h;obtain⟨rfl,rfl,rfl,h1,h2,h3,h4⟩:=hs;exact Fg hd ho (co.t _ _ ht) he (co.t _ _ iH) h1 ((aF e hl x).trans hx) (s:=bS e hl) hk h2 j0 lh h3 h4
       ·cases h
      ·cases h
     ·cases h
    ·rename_i m Oc;split at h
     ·rename_i k g k1 n1 k2 n2 k3 n3 hx j0 lh;split at h
      ·rename_i e' sz g' rows hk;cases h;obtain⟨rfl,rfl,h1,h2,h3,h4,h5,h6⟩:=hs;cases lo with
       |none=>cases j0
       |some y1=>cases hi with
        |none=>cases lh
        |some y2=>cases mx with
         |none=>cases Oc
         |some y3=>
          simp only[Yg,XW.injEq]at j0 lh Oc;exact Mb hd ho (co.t _ _ ht) he (co.t _ _ iH) h1 ((aF e hl x).trans hx) (s:=bS e hl) hk h2 j0 lh ((aF e hl y3).trans Oc) h3 h4 h5 h6
      ·cases h
     ·cases h
   ·cases h
  ·split at h
   ·rename_i a hx Oc;have Oc:mx=none:=by simpa using Oc
    subst Oc;split at h
    ·rename_i l r j0 lh;cases h;exact Fo hd ho (co.t _ _ ht) hs.1 ((aF e hl x).trans hx) j0 lh hs.2.1 hs.2.2
    ·cases h
   ·cases h
 ·cases h
include co in
theorem Mp {t:Nat}{x:Operand}(ho:o.op= .call ⟨.builtin .clear,⟨[x]⟩,⟨[t]⟩⟩)(h:yD T (T t) (aD hl) (dX e x)= .res p eff touch side)(hs:side):bO X ops (bS e hl) o {pv:=p,eff:=eff,touch:=touch}:=by
 unfold yD at h;split at h
 ·rename_i ti ht;split at h
  ·rename_i el he;split at h
   ·rename_i te iH;split at h
    ·rename_i k g sz st n hx;split at h
     ·rename_i e' sz' g' rows hk;cases h;obtain⟨rfl,rfl,rfl,h1,h2,h3⟩:=hs;exact Fe hd ho (co.t _ _ ht) he (co.t _ _ iH) h1 ((aF e hl x).trans hx) (s:=bS e hl) hk h2 h3
     ·cases h
    ·cases h
   ·cases h
  ·cases h
 ·cases h
include co in
theorem Mq {t:Nat}{x y:Operand}(ho:o.op= .store t x y)(h:yB (T t) (aD hl) o.dst (dX e x) (dX e y)= .res p eff touch side)(hs:side):bO X ops (bS e hl) o {pv:=p,eff:=eff,touch:=touch}:=by
 unfold yB at h;split at h
 ·rename_i ti ht vW;split at h
  ·rename_i k off hx;split at h
   ·rename_i TT cells hk;split at h
    ·rename_i bJ;cases h;have:=O5 (X:=X) (ops:=ops) hd ho vW (co.t _ _ ht) ((aF e hl x).trans hx) (s:=bS e hl) hk (y:=y) (by rw[aF];exact bJ) (by rw[aF];exact hs.1) hs.2;rwa [aF]at this
    ·cases h
   ·cases h
  ·rename_i k g sz i j hx;split at h
   ·rename_i E sz' g' rows hk;split at h
    ·rename_i row bV;split at h
     ·rename_i bJ;cases h;obtain⟨rfl,rfl,h1,h2⟩:=hs;have:=Iu (X:=X) (ops:=ops) hd ho vW (co.t _ _ ht) ((aF e hl x).trans hx) (s:=bS e hl) hk bV (y:=y) (by rw[aF];exact bJ) (by rw[aF];exact h1) h2;rwa [aF]at this
     ·cases h
    ·cases h
   ·cases h
  ·cases h
 ·cases h
theorem Fz (pA:X.m<=hl.length){t:Nat}(ho:o.op= .makeMap t none)(h:p5 (T t) hl.length= .res p eff touch side):bO X ops (bS e hl) o {pv:=p,eff:=eff,touch:=touch}:=by
 unfold p5 at h;split at h
 ·split at h
  ·cases h;exact Iy hd ho (s:=bS e hl) (ic hl) aa
  ·cases h
 ·cases h
include co in
theorem Mr (pA:X.m<=hl.length){t:Nat}{m:Operand}(ho:o.op= .range t m)(h:yE (T t) (aD hl) hl.length (dX e m)= .res p eff touch side)(hs:side):bO X ops (bS e hl) o {pv:=p,eff:=eff,touch:=touch}:=by
 unfold yE at h;split at h
 ·rename_i ti ht;split at h
  ·rename_i n sB hmp;split at h
   ·rename_i k hm;split at h
    ·rename_i n' sB' ents hk;cases h;obtain⟨rfl,rfl⟩:=hs;exact Pb (X:=X) (ops:=ops) hd ho (co.m _ _ _ _ ht hmp) ((aF e hl m).trans hm) (s:=bS e hl) hk (ic hl) aa
    ·cases h
   ·cases h
  ·cases h
 ·cases h
omit co in
theorem Ms {x:Operand}(ho:o.op= .entry x)(h:yF (aD hl) (dX e x)= .res p eff touch side):bO X ops (bS e hl) o {pv:=p,eff:=eff,touch:=touch}:=by
 unfold yF at h;split at h
 ·rename_i k hx;split at h
  ·rename_i n sB ents seen hk;split at h
   ·rename_i i hi;split at h
    ·rename_i kv Ly;cases h;exact Pc (X:=X) (ops:=ops) hd ho ((aF e hl x).trans hx) (s:=bS e hl) hk hi Ly
    ·cases h
   ·cases h
  ·cases h
 ·cases h
include co in
theorem ID {t:Nat}{m x:Operand}{ok:Bool}(ho:o.op= .lookup t m x ok)(h:tC (T t) (aD hl) (dX e m) (dX e x) ok= .res p eff touch side)(hs:side):bO X ops (bS e hl) o {pv:=p,eff:=eff,touch:=touch}:=by
 unfold tC at h;split at h
 ·rename_i ti ht;split at h
  ·rename_i n sB hmp;split at h
   ·rename_i k hm;split at h
    ·rename_i n' sB' ents hk;split at h
     ·rename_i xs hx;cases h;obtain⟨rfl,rfl,h3⟩:=hs;exact Me (X:=X) (ops:=ops) hd ho (co.m _ _ _ _ ht hmp) ((aF e hl m).trans hm) (s:=bS e hl) hk (by rw[aF];exact hx) h3
     ·cases h
    ·cases h
   ·cases h
  ·cases h
 ·cases h
include co in
theorem BZ {t:Nat}{m x y:Operand}(ho:o.op= .mapUpdate t m x y\/o.op= .insert t m x y)(h:uW (T t) (aD hl) o.dst (dX e m) (dX e x) (dX e y)= .res p eff touch side)(hs:side):bO X ops (bS e hl) o {pv:=p,eff:=eff,touch:=touch}:=by
 unfold uW at h;split at h
 ·rename_i ti ht vW;split at h
  ·rename_i n sB hmp;split at h
   ·rename_i k hm;split at h
    ·rename_i n' sB' ents hk;split at h
     ·rename_i xs v hx hy;cases h;obtain⟨rfl,rfl,h3⟩:=hs;exact Dw (X:=X) (ops:=ops) hd ho vW (co.m _ _ _ _ ht hmp) ((aF e hl m).trans hm) (s:=bS e hl) hk (by rw[aF];exact hx) h3 ((aF e hl y).trans hy)
     ·cases h
    ·cases h
   ·cases h
  ·cases h
 ·cases h
end
section
variable {X:Cfg}{ops:Array Oper}{e:cu}{hl:List Chunk}{o:Oper}{T:Nat->Option TI}{Q:Nat->Option Nat}(co:TabOK X.P T Q)(hd:∀d,o.dst=some d->d < X.n)
include co hd
theorem Pq (pA:X.m<=hl.length){p:PV}{eff:List (Nat × Chunk)}{touch:List Nat}{side:Prop}(h:SL T Q e hl o= .res p eff touch side)(hs:side):bO X ops (bS e hl) o {pv:=p,eff:=eff,touch:=touch}:=by
 unfold SL at h;split at h
 ·rename_i x ho;cases h;have:=Ti (X:=X) (ops:=ops) (s:=bS e hl) hd ho;rwa [aF]at this
 ·rename_i x ho;cases h;have:=LY (X:=X) (ops:=ops) (s:=bS e hl) hd ho;rwa [aF]at this
 ·rename_i ho;exact Pk hd ho h hs
 ·rename_i ho;exact Wj hd ho h hs
 ·rename_i ho;exact Tr hd ho h hs
 ·rename_i ho;exact Tt co hd ho h hs
 ·rename_i ho;exact Ts co hd ho h hs
 ·rename_i ho;exact Mk co hd ho h hs
 ·rename_i ho;exact Pl co hd ho h hs
 ·rename_i ho;exact Ml co hd ho h hs
 ·rename_i ho;exact Mm co hd ho h hs
 ·rename_i ho;exact Pm hd ho h hs
 ·rename_i t ho;split at h
  ·rename_i ti ht;cases h;exact O4 hd ho (co.t _ _ ht) (s:=bS e hl) (ic hl) aa
  ·cases h
 ·rename_i t x ho;split at h
  ·rename_i bJ;cases h;have:=Wf (X:=X) (ops:=ops) (s:=bS e hl) hd ho (ic hl) aa (by rw[aF];exact bJ);rwa [aF]at this
  ·cases h
 ·rename_i ho;exact Mq co hd ho h hs
 ·rename_i ho;exact Mn co hd ho h hs
 ·rename_i ho;exact Tu co hd pA ho h hs
 ·rename_i g caps ho;cases h;have:=Fa (X:=X) (ops:=ops) (s:=bS e hl) hd ho;have e1:(List.map (ev (bS e hl)) caps)=caps.map (dX e):=Y4 fun x _=>aF e hl x;simp only at this;rwa [e1]at this
 ·rename_i ho;exact Pp co hd ho h hs
 ·rename_i ho;exact Tv co hd ho h hs
 ·rename_i ho;exact Mo co hd ho h hs
 ·rename_i ho;exact Mp co hd ho h hs
 ·rename_i x y t t' ho;split at h
  ·rename_i e1;subst e1;exact Tx co hd pA ho h hs
  ·cases h
 ·rename_i x y tys ho;split at h
  ·rename_i k m k' n hx hy;split at h
   ·rename_i e1;subst e1;cases h;exact Wg hd ho ((aF e hl x).trans hx) ((aF e hl y).trans hy)
   ·cases h
  ·cases h
 ·rename_i x y tys ho;split at h
  ·rename_i k m k' n hx hy;split at h
   ·rename_i e1;subst e1;cases h;exact Wh hd ho ((aF e hl x).trans hx) ((aF e hl y).trans hy)
   ·cases h
  ·cases h
 ·unfold Fx at h;split at h<;>cases h
 ·rename_i ho;exact Po co hd pA ho h hs
 ·rename_i ho;exact Fz hd pA ho h
 ·rename_i ho;exact ID co hd ho h hs
 ·rename_i ho;exact Mr co hd pA ho h hs
 ·rename_i ho;exact Ms hd ho h
 ·rename_i ho;exact BZ co hd (.inl ho) h hs
 ·rename_i ho;exact BZ co hd (.inr ho) h hs
 ·cases h
omit co hd in
theorem Pr {g:Nat}{ps:List PV}(h:SL T Q e hl o= .call g ps):∃(fo:Operand) (args:List Operand) (tys:Array Nat) (caps:List PV),o.op= .call ⟨.value fo,⟨args⟩,tys⟩/\(dX e fo= .clo g caps\/∃cd:List D,dX e fo= .d (.clo g cd)/\caps=cd.map .d)/\ps=args.map (dX e)++caps:=by
 have key:∀(fo:Operand) (args:List Operand) (tys:Array Nat),o.op= .call ⟨.value fo,⟨args⟩,tys⟩->Fx (dX e fo) (args.map (dX e))= .call g ps->∃(fo:Operand) (args:List Operand) (tys:Array Nat) (caps:List PV),o.op= .call ⟨.value fo,⟨args⟩,tys⟩/\(dX e fo= .clo g caps\/∃cd:List D,dX e fo= .d (.clo g cd)/\caps=cd.map .d)/\ps=args.map (dX e)++caps:=by
  intro fo args tys ho h;unfold Fx at h;split at h
  ·rename_i g' caps Vd;cases h;exact⟨fo,args,tys,caps,ho,.inl Vd,rfl⟩
  ·rename_i g' cd Vd;cases h;exact⟨fo,args,tys,_,ho,.inr ⟨cd,Vd,rfl⟩,rfl⟩
  ·cases h
 unfold SL at h;split at h<;>first
  |(rename_i ho;exact key _ _ _ ho h)
  |(exfalso;revert h;unfold tB;repeat(first|(split)|(intro h;cases h)))
  |(exfalso;revert h;unfold unS;repeat(first|(split)|(intro h;cases h)))
  |(exfalso;revert h;unfold Pd;repeat(first|(split)|(intro h;cases h)))
  |(exfalso;revert h;unfold Pf;repeat(first|(split)|(intro h;cases h)))
  |(exfalso;revert h;unfold Pe;repeat(first|(split)|(intro h;cases h)))
  |(exfalso;revert h;unfold yw;repeat(first|(split)|(intro h;cases h)))
  |(exfalso;revert h;unfold Ft;repeat(first|(split)|(intro h;cases h)))
  |(exfalso;revert h;unfold yy;repeat(first|(split)|(intro h;cases h)))
  |(exfalso;revert h;unfold yx;repeat(first|(split)|(intro h;cases h)))
  |(exfalso;revert h;unfold BX;repeat(first|(split)|(intro h;cases h)))
  |(exfalso;revert h;unfold yB;repeat(first|(split)|(intro h;cases h)))
  |(exfalso;revert h;unfold yz;repeat(first|(split)|(intro h;cases h)))
  |(exfalso;revert h;unfold Pg;repeat(first|(split)|(intro h;cases h)))
  |(exfalso;revert h;unfold Fw;repeat(first|(split)|(intro h;cases h)))
  |(exfalso;revert h;unfold Ph;repeat(first|(split)|(intro h;cases h)))
  |(exfalso;revert h;unfold Pj;repeat(first|(split)|(intro h;cases h)))
  |(exfalso;revert h;unfold yC;repeat(first|(split)|(intro h;cases h)))
  |(exfalso;revert h;unfold yD;repeat(first|(split)|(intro h;cases h)))
  |(exfalso;revert h;unfold Fv;repeat(first|(split)|(intro h;cases h)))
  |(exfalso;revert h;unfold p5;repeat(first|(split)|(intro h;cases h)))
  |(exfalso;revert h;unfold tC;repeat(first|(split)|(intro h;cases h)))
  |(exfalso;revert h;unfold yE;repeat(first|(split)|(intro h;cases h)))
  |(exfalso;revert h;unfold yF;repeat(first|(split)|(intro h;cases h)))
  |(exfalso;revert h;unfold uW;repeat(first|(split)|(intro h;cases h)))
  |(exfalso;revert h;repeat(first|(split)|(intro h;cases h)))
end
def ig (e:cu)(dst:Option Nat)(p:PV):cu:=
 match dst with
 |some d=>(d,p)::e
 |none=>e
def bD:List Chunk->Nat->Chunk->List Chunk
 |[],0,c=>[c]
 |[],_+1,_=>[]
 |_::l,0,c=>c::l
 |a::l,k+1,c=>a::bD l k c
def sg:List (Nat × Chunk)->List Chunk->List Chunk
 |[],h=>h
 |(k,c)::l,h=>bD (sg l h) k c
theorem iB:∀{h:List Chunk}{k:Nat}{c:Chunk},k<=h.length->∀k',aD (bD h k c) k'=if k'=k then c else aD h k'
 |[],0,c,_,k'=>by cases k'<;>simp[bD,aD]
 |[],k+1,c,h,k'=>by simp at h
 |a::l,0,c,_,k'=>by cases k'<;>simp[bD,aD]
 |a::l,k+1,c,h,k'=>by
  cases k' with
  |zero=>simp[bD,aD]
  |succ k'=>
   simp only[bD,aD];rw[iB (by simpa using h)];simp
theorem FA:∀{h:List Chunk}{k:Nat}{c:Chunk},h.length<=(bD h k c).length
 |[],0,c=>by simp[bD]
 |[],k+1,c=>by simp[bD]
 |a::l,0,c=>by simp[bD]
 |a::l,k+1,c=>by
  have:=FA (h:=l) (k:=k) (c:=c);simpa[bD]using this
theorem tE:∀{eff:List (Nat × Chunk)}{h:List Chunk},h.length<=(sg eff h).length
 |[],_=>Xz _
 |(_,_)::_,_=>Yy tE FA
theorem uZ:∀{eff:List (Nat × Chunk)}{h:List Chunk},(∀kc∈eff,kc.1<=h.length)->∀k',aD (sg eff h) k'=cH eff (aD h) k'
 |[],_,_,_=>rfl
 |(k,c)::l,h,hk,k'=>by
  simp only[sg,cH];rw[iB (Yy (hk (k,c) ah) tE),uZ fun kc SW=>hk kc (by simp[SW])]
theorem qP {e:cu}{h:List Chunk}{dst:Option Nat}{p:PV}{eff:List (Nat × Chunk)}{touch:List Nat}(hk:∀kc∈eff,kc.1<=h.length):(bS e h).app dst {pv:=p,eff:=eff,touch:=touch}=bS (ig e dst p) (sg eff h):=by
 have h1:aD (sg eff h)=cH eff (aD h):=funext (uZ hk);cases dst with
 |none=>simp only[FS.app,FS.put,bS,ig,h1]
 |some d=>
  simp only[FS.app,FS.put,bS,ig,h1];congr 1
theorem tF:∀{h:List Chunk}{k:Nat}{c:Chunk},k < h.length->(bD h k c).length=h.length
 |a::l,0,c,_=>rfl
 |a::l,k+1,c,hk=>by simp only[bD,Xx];rw[tF (by simpa using hk)]
theorem FB:∀{h:List Chunk}{c:Chunk},(bD h h.length c).length=h.length+1
 |[],c=>rfl
 |a::l,c=>by simp only[bD,Xx];rw[FB]
def jp (ρ:Nat->Nat):Nat->List Chunk->List Chunk->List Chunk
 |_,[],h=>h
 |j,c::l,h=>jp ρ (j+1) l (bD h (ρ j) (mS ρ c))
theorem yG {ρ:Nat->Nat}(inj:∀i j,ρ i=ρ j->i=j){c:Chunk}:∀(l:List Chunk) (i j:Nat) (h:Nat->Chunk),j < i->∀k,cH (lJ ρ i l) (fun k'=>if k'=ρ j then c else h k') k=if k=ρ j then c else cH (lJ ρ i l) h k
 |[],i,j,h,hj,k=>rfl
 |d::l,i,j,h,hj,k=>by
  simp only[lJ,cH];by_cases e:k=ρ i
  ·rw[aj e,aj e,af (fun e2=>by have:=inj _ _ (e.symm.trans e2);omega)]
  ·rw[af e,af e];exact yG inj l (i+1) j h aa k
theorem yH {ls:List Nat}{nk:Nat}(mM:ls.Nodup)(hlt:∀k∈ls,k < nk):∀(l:List Chunk) (i:Nat) (h:List Chunk),(i<=ls.length->h.length=nk)->(ls.length<=i->h.length=nk+(i - ls.length))->
 (∀k,aD (jp (eW ls nk) i l h) k=cH (lJ (eW ls nk) i l) (aD h) k)/\h.length<=(jp (eW ls nk) i l h).length
 |[],i,h,_,_=>⟨fun _=>rfl,Xz _⟩
 |c::l,i,h,h1,h2=>by
  have inj:∀i j,eW ls nk i=eW ls nk j->i=j:=fun i j e=>Dz mM hlt e;rcases XM i ls.length with hi|hi
  ·have bB:=h1 aa;have hk:eW ls nk i < h.length:=by rw[bB];exact hlt _ (Xl (oP hi))
   have jc:=tF (c:=mS (eW ls nk) c) hk;obtain⟨q1,q2⟩:=yH mM hlt l (i+1) (bD h (eW ls nk i) (mS (eW ls nk) c)) (fun _=>jc.trans bB) (fun hge=>by rw[jc,bB];omega);refine⟨fun k=>?_,by rw[jc]at q2;exact q2⟩;simp only[jp,lJ,cH];rw[q1 k,show aD (bD h (eW ls nk i) (mS (eW ls nk) c))=fun k'=>if k'=eW ls nk i then mS (eW ls nk) c else aD h k' from funext (iB (V' hk))];exact yG inj l (i+1) i _ aa k
  ·have bB:=h2 hi;have hk:eW ls nk i=h.length:=by
    have:=lI ls nk (i - ls.length);rw[show ls.length+(i - ls.length)=i by omega]at this;omega
   have jc:(bD h (eW ls nk i) (mS (eW ls nk) c)).length=h.length+1:=by rw[hk];exact FB
   obtain⟨q1,q2⟩:=yH mM hlt l (i+1) (bD h (eW ls nk i) (mS (eW ls nk) c)) (fun hge=>by omega) (fun _=>by rw[jc,bB];omega);refine⟨fun k=>?_,Yy aa q2⟩;simp only[jp,lJ,cH];rw[q1 k,show aD (bD h (eW ls nk i) (mS (eW ls nk) c))=fun k'=>if k'=eW ls nk i then mS (eW ls nk) c else aD h k' from funext (iB aa)];exact yG inj l (i+1) i _ aa k
def DD (dj:Option Nat)(e:cu):Option (Option Bool):=
 match dj with
 |none=>some none
 |some t=>match fF e t with
  | .d (.v (.bool b))=>some (some b)
  | .d (.v (.tuple _))=>some none
  |_=>none
def vd (ds:List (Option Nat))(e:cu)(o:Oper):Option Bool:=
 match o.guard with
 |none=>some true
 |some (j,want)=>(DD (ds.getD j none) e).map (·==some want)
theorem Mt {ops:Array Oper}{e:cu}{h:List Chunk}{o:Oper}:pR ops (bS e h) o=vd (ops.toList.map (·.dst)) e o:=by
 unfold pR vd;cases o.guard with
 |none=>rfl
 |some jw=>
  obtain⟨j,want⟩:=jw;simp only;congr 1;unfold Dl DD;have:(ops[j]?).bind (·.dst)=(ops.toList.map (·.dst)).getD j none:=by
   simp only[XC,Xy,X6];cases ops[j]? <;>rfl
  rw[this];rfl
def Ps (n:Nat)(o:Oper):Bool:=match o.dst with|some d=>decide (d < n)|none=>true
def vwL (h:Nat->Chunk)(ps:List PV):Option (List D):=cI (vw h) ps
def Wk (h:Nat->Chunk)(ps:List PV):List Nat:=j3 (tc h) ps
def sh (ls:List Nat)(nk n:Nat):List Nat:=(X8 n).map (eW ls nk)
def DE (P:Program)(r:SR)(dst:Option Nat)(e:cu)(h:List Chunk)(sm:List (List Nat × List Nat))(R:cu->List Chunk->List (List Nat × List Nat)->Prop):Prop:=
 match r with
 | .no=>False
 | .res p eff touch side=>side/\(eff.all fun kc=>decide (kc.1<=h.length))=true/\R (ig e dst p) (sg eff h) ((eff.map (·.1),touch)::sm)
 | .call g ps=>(∃ds r,vwL (aD h) ps=some ds/\ai P g ds r/\(Wk (aD h) ps=[]\/r.flat=true)/\R (ig e dst (.d r)) h (([],Wk (aD h) ps)::sm))\/
  (∃ls args h0 r h1,MSpec P g args h0 r h1/\ps=jH (eW ls h.length) args/\ls.length=h0.length/\ls.Nodup/\(∀k∈ls,k < h.length)/\bM (aD h) (eW ls h.length) 0 h0/\
   R (ig e dst (ren (eW ls h.length) r)) (jp (eW ls h.length) 0 h1 h) ((sh ls h.length h1.length,sh ls h.length h1.length)::sm))\/
  ∃ls args h0 r,MSpec P g args h0 r h0/\ps=jH (eW ls h.length) args/\ls.length=h0.length/\ls.Nodup/\(∀k∈ls,k < h.length)/\bM (aD h) (eW ls h.length) 0 h0/\
   R (ig e dst (ren (eW ls h.length) r)) h (([],sh ls h.length h0.length)::sm)
def xg (P:Program)(n:Nat)(T:Nat->Option TI)(Q:Nat->Option Nat)(draw:Bool)(ops:Array Oper)(ds:List (Option Nat)):List Oper->cu->List Chunk->List (List Nat × List Nat)->(cu->List Chunk->Prop)->Prop
 |[],e,h,sm,K=>(draw=true->(pT ops sm.reverse&&pV ops)=true)/\K e h
 |o::l,e,h,sm,K=>
  match vd ds e o with
  |some g=>
   Ps n o=true/\
   (g=true->DE P (SL T Q e h o) o.dst e h sm (fun e' h' sm'=>xg P n T Q draw ops ds l e' h' sm' K))/\
   (g=false->xg P n T Q draw ops ds l (ig e o.dst (.d (.v undef))) h (([],[])::sm) K)
  |none=>False
theorem yI {X:Cfg}{T:Nat->Option TI}{Q:Nat->Option Nat}(co:TabOK X.P T Q){draw:Bool}{ops:Array Oper}{K:cu->List Chunk->Prop}:∀(l:List Oper) (i:Nat) (e:cu) (h:List Chunk) (sm:List (List Nat × List Nat)),X.m<=h.length->ops.toList.drop i=l->i<=ops.size->
 xg X.P X.n T Q draw ops (ops.toList.map (·.dst)) l e h sm K->∃its e' h',lG X ops (bS e h) i its/\uN (bS e h) its=bS e' h'/\(draw=true->(pT ops (sm.reverse++Im its)&&pV ops)=true)/\K e' h'
 |[],i,e,h,sm,pA,hl,hi,hs=>by
  refine⟨[],e,h,?_,rfl,by simpa[Im]using hs.1,hs.2⟩;have:=congrArg O' hl;simp at this;simp only[lG];omega
 |o::l,i,e,h,sm,pA,hl,hi,hs=>by
  have hlt:i < ops.size:=by
   have:=congrArg O' hl;simp at this;omega
  have VQ:ops[i]? =some o:=by
   have:=Yl (xs:=ops.toList) (i:=i) (j:=0);rw[hl]at this;simpa using this.symm
  have hl':ops.toList.drop (i+1)=l:=by
   rw[<-List.drop_drop,hl];rfl
  unfold xg at hs;split at hs
  ·rename_i g hg;obtain⟨vW,h1,h2⟩:=hs;have hd:∀d,o.dst=some d->d < X.n:=by
    intro d hd;unfold Ps at vW;rw[hd]at vW;simpa using vW
   have hgS:pR ops (bS e h) o=some g:=Mt.trans hg;have step:∀(res:Res) (e2:cu) (h2:List Chunk),OS X ops (bS e h) ⟨o,g,res⟩->(bS e h).app o.dst res=bS e2 h2->h.length<=h2.length->xg X.P X.n T Q draw ops (ops.toList.map (·.dst)) l e2 h2 ((res.eff.map (·.1),res.touch)::sm) K->
    ∃its e' h',lG X ops (bS e h) i its/\uN (bS e h) its=bS e' h'/\(draw=true->(pT ops (sm.reverse++Im its)&&pV ops)=true)/\K e' h':=by
    intro res e2 h2 Ox a1D bB hs;obtain⟨its,e',h',t1,t2,t3,t4⟩:=yI co l (i+1) e2 h2 _ aa hl' aa hs;refine⟨⟨o,g,res⟩::its,e',h',⟨VQ,Ox,by rw[a1D];exact t1⟩,?_,fun H3=>?_,t4⟩
    ·show uN ((bS e h).app o.dst res) its=_;rw[a1D];exact t2
    ·have:=t3 H3;simpa[Im]using this
   cases g with
   |true=>
    have h1:=h1 rfl;unfold DE at h1;split at h1
    ·exact h1.elim
    ·rename_i p eff touch side mP;obtain⟨a1E,a2D,AC⟩:=h1;have hk:∀kc∈eff,kc.1<=h.length:=fun kc SW=>by
      have:=XA.1 a2D kc SW;simpa using this
     exact step ⟨p,eff,touch⟩ _ _ ⟨hgS,fun _=>Pq co hd pA mP a1E,fun hf=>by cases hf⟩ (qP hk) tE AC
    ·rename_i g ps mP;obtain⟨fo,args,tys,caps,ho,hf,rfl⟩:=Pr mP;have e1:(List.map (ev (bS e h)) args)=args.map (dX e):=Y4 fun x _=>aF e h x;have hf':ev (bS e h) fo= .clo g caps\/∃cd:List D,ev (bS e h) fo= .d (.clo g cd)/\caps=cd.map .d:=by rw[aF];exact hf
     rcases h1 with⟨ds,r,hv,hp,gX,AC⟩|⟨ls,margs,h0,r,AD,hM,mL,g1,g2,g3,g4,AC⟩|⟨ls,margs,h0,r,hM,mL,g1,g2,g3,g4,AC⟩
     ·have:=Tm (X:=X) (ops:=ops) (s:=bS e h) hd ho hf' (by simp only;rw[e1];exact hv) hp (by simp only;rw[e1];exact gX);simp only at this;rw[e1]at this;exact step ⟨.d r,[],_⟩ _ h ⟨hgS,fun _=>this,fun hf=>by cases hf⟩ (qP (fun kc h=>by simp at h)) (Xz _) AC
     ·have:=Fl (X:=X) (ops:=ops) (s:=bS e h) (ls:=ls) (nk:=h.length) hd ho hf' hM (by simp only;rw[e1];exact mL) g1 g2 g3 g4 (fun i _=>nX h (h.length+i) aa) pA;obtain⟨q1,q2⟩:=yH g2 g3 AD 0 h (fun _=>rfl) (fun h0=>by omega);refine step ⟨_,_,_⟩ (ig e o.dst (ren (eW ls h.length) r)) (jp (eW ls h.length) 0 AD h) ⟨hgS,fun _=>this,fun hf=>by cases hf⟩ ?_ q2 ?_
      ·have h3:aD (jp (eW ls h.length) 0 AD h)=cH (lJ (eW ls h.length) 0 AD) (aD h):=funext q1;cases hdd:o.dst with
       |none=>simp only[FS.app,FS.put,bS,ig,h3]
       |some d=>
        simp only[FS.app,FS.put,bS,ig,h3];congr 1
      ·have h4:(lJ (eW ls h.length) 0 AD).map (·.1)=sh ls h.length AD.length:=by
        rw[uU];exact Y4 fun j _=>by rw[XE]
       simp only;rw[h4];exact AC
     ·have:=Pa (X:=X) (ops:=ops) (s:=bS e h) (ls:=ls) (nk:=h.length) hd ho hf' hM (by simp only;rw[e1];exact mL) g1 g2 g3 g4 pA;exact step ⟨ren (eW ls h.length) r,[],_⟩ _ h ⟨hgS,fun _=>this,fun hf=>by cases hf⟩ (qP (fun kc h=>by simp at h)) (Xz _) AC
   |false=>
    exact step Ik _ h ⟨hgS,(fun hf=>(by cases hf)),fun _=>⟨rfl,hd⟩⟩ (qP (fun kc h=>by simp at h)) (Xz _) (h2 rfl)
  ·exact hs.elim
theorem DF {X:Cfg}{T:Nat->Option TI}{Q:Nat->Option Nat}(co:TabOK X.P T Q)(hm:X.P.follows .mixedOrders=true){id:Nat}{draw:Bool}{ops:Array Oper}{K:cu->List Chunk->Prop}{e:cu}{h:List Chunk}{a:Act}{w:World}{R:Exit->Act->World->Prop}(pA:X.m<=h.length)
 (hs:xg X.P X.n T Q draw ops (ops.toList.map (·.dst)) ops.toList e h [] K) (hr:lF X (bS e h) a w) (hR:∀e' h' a' w',K e' h'->lF X (bS e' h') a' w'->R .normal a' w'):(Code.region id ops draw).wp X.P R a w:=by
 obtain⟨its,e',h',t1,t2,t3,t4⟩:=yI co ops.toList 0 e h [] pA rfl (XD _) hs;refine E2 hm id draw t1 (fun hd=>?_) hr (fun a' w' hr'=>hR e' h' a' w' t4 (by rw[<-t2];exact hr'));have:=t3 hd;simpa using this
theorem a6k {p:Prop}(h:p:=by
 exact⟨hc.defers,v,cr,v,rfl,hle _ _ _ C7,hc.ext.ext⟩):p:=h
def eS (P:Program)(n m:Nat)(e:cu)(h:List Chunk)(e':cu)(h':List Chunk):Prop:=∀X:Cfg,X.P=P->X.n=n->X.m=m->∀a w,lF X (bS e h) a w->lF X (bS e' h') a w
def RK (X:Cfg)(K:Exit->cu->List Chunk->Prop)(x:Exit)(a:Act)(w:World):Prop:=∃e h,K x e h/\lF X (bS e h) a w
def wA (P:Program)(n m:Nat)(c:Code)(K:Exit->cu->List Chunk->Prop)(e:cu)(h:List Chunk):Prop:=∀X:Cfg,X.P=P->X.n=n->X.m=m->∀a w,lF X (bS e h) a w->c.wp P (RK X K) a w
def si:List PV->Nat->cu
 |[],_=>[]
 |p::l,i=>(i,p)::si l (i+1)
theorem B0:∀(ps:List PV) (i t:Nat),fF (si ps i) t=if i<=t then (match ps[t - i]? with|some p=>p|none=> .any)else .any
 |[],i,t=>by simp[si,fF]
 |d::l,i,t=>by
  simp only[si,fF];by_cases h:t=i
  ·subst h;simp
  ·rw[af h,B0 l (i+1) t];by_cases h2:i<=t
   ·rw[aj h2,aj aa,show t - i=(t - (i+1))+1 by omega,Yw]
   ·rw[af h2,af aa]
def Ke (T:Nat->Option TI)(e:cu)(h:List Chunk):ResultVar->Option PV
 | .tmp t=>some (fF e t)
 | .cell a t=>
  match fF e a,T t with
  | .ptr k off,some ti=>
   match aD h k with
   | .box _ cells=>
    if off+ti.size<=cells.length then
     if ti.agg then some (uO ((cells.drop off).take ti.size))
     else match cells.drop off with
      |p::_=>if ti.size=1 then some p else none
      |[]=>none
    else none
   |_=>none
  |_,_=>none
def rK (T:Nat->Option TI)(e:cu)(h:List Chunk):List ResultVar->Option (List PV)
 |[]=>some []
 |r::l=>match Ke T e h r,rK T e h l with|some d,some ds=>some (d::ds)|_,_=>none
def A6:List PV->PV
 |[p]=>p
 |ps=>OZ ps
def aP (d d':D):Prop:=∀(M:Nat->Prop) (w:World) (v:Value),RepD M w d v->RepD M w d' v
theorem aP.refl (d:D):aP d d:=fun _ _ _ h=>h
theorem aP.nil (sz:Nat):aP (.v (.slice none 0 0)) (.sl sz []):=fun _ _ _ h=>by cases h;exact .nil _ _ _ aa
def sj:List D->List D->Prop
 |[],[]=>True
 |a::l,b::m=>aP a b/\sj l m
 |_,_=>False
theorem xH:∀{l m:List D},sj l m->l.length=m.length/\∀(j:Nat) (a b:D),l[j]? =some a->m[j]? =some b->aP a b
 |[],[],_=>⟨rfl,fun j a b h=>by simp at h⟩
 |[],_::_,h=>h.elim
 |_::_,[],h=>h.elim
 |a::l,b::m,⟨h1,h2⟩=>by
  obtain⟨q1,q2⟩:=xH h2;refine⟨by simp[q1],fun j x y hx hy=>?_⟩;cases j with
  |zero=>simp at hx hy;subst hx;subst hy;exact h1
  |succ j=>exact q2 j x y (by simpa using hx) (by simpa using hy)
theorem yJ {M:Nat->Prop}{w:World}{l m:List D}{vs:List Value}(h:sj l m)(hr:eE M w l vs):eE M w m vs:=by
 obtain⟨q1,q2⟩:=xH h;refine⟨q1 ▸ hr.1,fun j d x hj hx=>?_⟩;have hlt:j < l.length:=by rw[q1];exact(Xn.1 hj).1
 have hl:l[j]? =some l[j]:=Xk hlt;exact q2 j _ d hl hj M w x (hr.2 j _ x hl hx)
theorem aP.agg {l m:List D}(h:sj l m)(h1:m.all D.one=true):aP (.agg l) (.agg m):=fun M w v hr=>by
 cases hr with
 |agg _ vs hl _ bC=>
  have:=yJ h ⟨hl,bC⟩;exact .agg m vs this.1 (by simpa using h1) this.2
theorem aP.tup {l m:List D}(h:sj l m):aP (.tup l) (.tup m):=fun M w v hr=>by
 cases hr with
 |tup _ vs hl bC=>
  have:=yJ h ⟨hl,bC⟩;exact .tup m vs this.1 this.2
theorem ai.args {P:Program}{f:Nat}{ds ds':List D}{r:D}(h:ai P f ds' r)(hd:sj ds ds'):ai P f ds r:=⟨h.1,fun M w vs hM hG dP=>h.2 M w vs hM hG (yJ hd dP)⟩
theorem ai.res {P:Program}{f:Nat}{ds:List D}{r r':D}(h:ai P f ds r)(hr:aP r r'):ai P f ds r':=⟨h.1,fun M w vs hM hG dP=>(h.2 M w vs hM hG dP).mono fun e w' ⟨v,he,hv,hx⟩=>⟨v,he,hr M w' v hv,hx⟩⟩
def tG (T:Nat->Option TI)(rs:List ResultVar)(r:D)(x:Exit)(e:cu)(h:List Chunk):Prop:=(x= .normal\/x= .ret)/\∃ps d,rK T e h rs=some ps/\vw (aD h) (A6 ps)=some d/\aP d r
def A7 (P:Program)(m:Nat)(T:Nat->Option TI)(rs:List ResultVar)(r:PV)(h1:List Chunk)(x:Exit)(e:cu)(h:List Chunk):Prop:=(x= .normal\/x= .ret)/\∃ps,rK T e h rs=some ps/\eS P 1 m [(0,A6 ps)] h [(0,r)] h1
def sk (tmps:Array Value):ResultVar->Sem Value
 | .tmp t=>pure (tmps.getD t undef)
 | .cell a t=>do loadVar t (<-asAddr (tmps.getD a undef))
theorem wB {P:Program}{tmps:Array Value}{w:World}:∀(rs:List ResultVar) (vs:List Value),rs.length=vs.length->
 (∀(j:Nat) (r:ResultVar) (v:Value),rs[j]? =some r->vs[j]? =some v->(sk tmps r).run P w= .ok v w)->(rs.mapM (sk tmps)).run P w= .ok vs w
 |[],[],_,_=>by simp
 |[],_::_,h,_=>by simp at h
 |_::_,[],h,_=>by simp at h
 |r::rs,v::vs,h,hr=>by
  have h0:=hr 0 r v rfl rfl;have ih:=wB (P:=P) (tmps:=tmps) (w:=w) rs vs (by simpa using h) fun j r v h1 h2=>hr (j+1) r v (by simpa using h1) (by simpa using h2);rw[List.mapM_cons,Sem.run_bind,h0];simp only[Result.andThen_ok,Sem.run_bind,ih];rfl
theorem Ty {X:Cfg}{T:Nat->Option TI}{Q:Nat->Option Nat}(co:TabOK X.P T Q){e:cu}{h:List Chunk}{a:Act}{w:World}{c:Cx}(hc:RealC X (bS e h) a w c)(rv:ResultVar)(p:PV)(C8:Ke T e h rv=some p):
 ∃v,(sk a.tmps rv).run X.P w= .ok v w/\RepP c w p v:=by
 cases rv with
 |tmp t=>cases C8;exact⟨_,rfl,hc.env t⟩
 |cell b t=>
  simp only[Ke]at C8;split at C8
  ·rename_i k off ti hb' ht;split at C8
   ·rename_i TT cells hk;split at C8
    ·rename_i cL;have bp:=hc.chunk k;have hk':(bS e h).heap k= .box TT cells:=hk;rw[hk']at bp;have R0:=hc.env b;have iO:(bS e h).env b= .ptr k off:=hb';rw[iO]at R0;generalize hu:a.tmps.getD b undef=u at R0;cases R0 with
     |ptr _ _ bb Br=>
      cases bp with
      |box _ _ b'' us hb'' hh oG h1=>
       rw[Br]at hb'';cases hb'';have hul:us.length=cells.length:=oG.1.symm;have bB:((us.drop off).take ti.size).length=ti.size:=by rw[Xp,XS];omega
       have ck:∀(j:Nat) (v:Value),((us.drop off).take ti.size)[j]? =some v->w.cell? ⟨bb,off+j,none⟩=some v:=fun j v hj=>by
        simp[YU,hh,(eZ hj).2]
       have VX:∀(h0:ti.agg=false->∃v,(us.drop off).take ti.size=[v]),(loadVar t ⟨bb,off,none⟩).run X.P w= .ok (if ti.agg then .agg ((us.drop off).take ti.size).toArray else ((us.drop off).take ti.size).headD undef) w:=by
        intro h0;have:=oM (co.t t ti ht) w bb off ((us.drop off).take ti.size) bB ck h0;simpa[Instr.loadAt,Instr.sureAddr]using this
       cases rm:ti.agg with
       |true=>
        rw[rm,aj rfl]at C8;cases C8;have hl:=VX (fun h=>by rw[rm]at h;cases h);rw[rm,aj rfl]at hl;exact⟨_,by simp[sk,hu,asAddr,hl],tu (oG.part off ti.size) (fun d hd=>h1 d (Yc (Yd hd)))⟩
       |false=>
        rw[rm,af ah]at C8;split at C8
        ·rename_i q l H3;split at C8
         ·rename_i h1';cases C8;have hp:=uX H3;obtain⟨v,hv⟩:∃v,us[off]? =some v:=⟨us[off]'(by omega),Xk _⟩;have dL:(us.drop off).take ti.size=[v]:=by
           rw[h1',YR aa];simp only[ZS,Zb];rw[Xk aa]at hv;simpa using hv
          have hl:=VX (fun _=>⟨v,dL⟩);rw[rm,af ah,dL]at hl;exact⟨v,by simp[sk,hu,asAddr,hl],oG.2 off p v hp hv⟩
         ·cases C8
        ·cases C8
    ·cases C8
   ·cases C8
  ·cases C8
theorem Kf {X:Cfg}{T:Nat->Option TI}{Q:Nat->Option Nat}(co:TabOK X.P T Q){e:cu}{h:List Chunk}{a:Act}{w:World}{c:Cx}(hc:RealC X (bS e h) a w c){fn:Func}{ps:List PV}(gL:rK T e h fn.results.toList=some ps):
 ∃v,(results fn a.tmps).run X.P w= .ok v w/\RepP c w (A6 ps) v:=by
 have a1F:∀(rs:List ResultVar) (ps:List PV),rK T e h rs=some ps->∃vs:List Value,rs.length=vs.length/\bI c w ps vs/\
  (∀(j:Nat) (r:ResultVar) (v:Value),rs[j]? =some r->vs[j]? =some v->(sk a.tmps r).run X.P w= .ok v w):=by
  intro rs;induction rs with
  |nil=>
   intro ds dP;simp[rK]at dP;subst dP;exact⟨[],rfl,⟨rfl,fun j d x h=>by simp at h⟩,fun j r v h=>by simp at h⟩
  |cons rv rs ih=>
   intro ds dP;simp only[rK]at dP;split at dP
   ·rename_i d ds' h1 h2;cases dP;obtain⟨v,ry,Od⟩:=Ty co hc rv d h1;obtain⟨vs,g1,g2,g3⟩:=ih ds' h2;refine⟨v::vs,by simp[g1],⟨by simp[g2.1],fun j d x hj hx=>?_⟩,fun j r x hj hx=>?_⟩
    ·cases j with
     |zero=>simp at hj hx;subst hj;subst hx;exact Od
     |succ j=>exact g2.2 j d x (by simpa using hj) (by simpa using hx)
    ·cases j with
     |zero=>simp at hj hx;subst hj;subst hx;exact ry
     |succ j=>exact g3 j r x (by simpa using hj) (by simpa using hx)
   ·cases dP
 obtain⟨vs,g1,g2,g3⟩:=a1F _ _ gL;have cr:=wB (P:=X.P) (tmps:=a.tmps) (w:=w) fn.results.toList vs g1 g3;have sV:(results fn a.tmps).run X.P w= .ok (if h:vs.length=1 then vs[0]else .tuple vs.toArray) w:=by
  have e1:results fn a.tmps=(do let vs <-fn.results.mapM (sk a.tmps);pure (if h:vs.size=1 then vs[0]else .tuple vs)):=by
   unfold results;congr 1
  rw[e1,Sem.run_bind,Array.mapM_eq_mapM_toList];simp[cr]
 refine⟨_,sV,?_⟩;by_cases h1:vs.length=1
 ·rw[dif_pos h1];obtain⟨d,rfl⟩:=List.length_eq_one_iff.1 (g2.1.trans h1);exact g2.2 0 d _ rfl (Xk aa)
 ·rw[dif_neg h1];have:A6 ps=OZ ps:=by
   unfold A6;split
   ·exact absurd g2.1.symm h1
   ·rfl
  rw[this];exact O0 g2
theorem FC {c:Cx}{w:World}{ps:List PV}{vs:List Value}{n:Nat}(dP:bI c w ps vs)(t:Nat):RepP c w (fF (si ps 0) t) ((vs.toArray++Za (n - vs.toArray.size) undef).getD t undef):=by
 rw[B0];rw[aj (XD _),Zj];cases hd:ps[t]? with
 |none=>exact .any _
 |some d=>
  have hlt:t < vs.length:=by rw[<-dP.1];exact(Xn.1 hd).1
  have hv:vs[t]? =some vs[t]:=Xk hlt;have:=dP.2 t d _ hd hv;simp only[Yv,Array.getElem?_append,YG,hlt,if_true,_r,hv,Yp];exact this
theorem FD {P:Program}{f:Nat}{fn:Func}{c:Code}{T:Nat->Option TI}{Q:Nat->Option Nat}(co:TabOK P T Q)(hf:P.funcs[f]? =some fn)(hb:fn.body=some c)(hn:yp P f){ds:List D}{r:D}(hl:ds.length<=fn.ntmps)
 (hp:wA P fn.ntmps 0 c (tG T fn.results.toList r) (si (ds.map .d) 0) []):ai P f ds r:=by
 refine⟨hn,fun M w vs hM hG dP=>?_⟩;have VR:vs.length=ds.length:=dP.1.symm;let c0:Cx:={M:=M,bl:=fun _=>none,ov:=fun _ _=>none}
 let X:Cfg:={P:=P,n:=fn.ntmps,m:=0,w0:=w,M0:=M,L:=fun _=>False,c0:=c0}
 have oD:lF X (bS (si (ds.map .d) 0) []) {tmps:=vs.toArray++Za (fn.ntmps - vs.toArray.size) undef,defers:=[]} w:=by
  refine⟨c0,by simp[X];omega,rfl,ExtL.refl _ _,hG.keep ⟨Xz _,fun _ _ _=>rfl,fun b _ h=>h.elim id False.elim⟩,fun b hb=>⟨hM b hb,id⟩,fun b=>⟨.inl,fun h=>?_⟩,fun k b h=>?_,fun k k' b h _=>?_,fun t=>FC (qN (c:=c0) dP) t,fun k=>?_,fun k hk=>absurd hk (YH _)⟩
  ·rcases h with h|⟨k,h⟩
   ·exact h
   ·simp[bS,aD,Cx.block]at h
  ·simp[bS,aD,Cx.block]at h
  ·simp[bS,aD,Cx.block]at h
  ·simp only[bS,aD];exact .none rfl fun _=>rfl
 refine calls_of_wp hf hb (wp_mono (hp X rfl rfl rfl _ _ oD) fun ex a w' hq=>?_);obtain⟨e,h,⟨hx,ps,d,gL,hv,hle⟩,hr⟩:=hq;obtain⟨cx,hc⟩:=hr;obtain⟨v,cr,bC⟩:=Kf co hc gL;have hd:=mb hc (T:=tc (aD h) (A6 ps)) 6 hv (fun _ h=>h) bC;have C7:RepD M w' d v:=by
  refine hd.keep ⟨Xz _,fun _ _ _=>rfl,fun b _ hb=>⟨(hc.mu b).2 (.inl hb),fun k _ e=>?_⟩⟩;rcases(hc.new k b e).1 with h1|h1
  ·exact h1
  ·have:=(hc.fresh b hb).1;omega
 rcases hx with rfl|rfl
 ·exact a6k
 ·exact a6k
theorem FE {P:Program}{f:Nat}{fn:Func}{c:Code}{T:Nat->Option TI}{Q:Nat->Option Nat}(co:TabOK P T Q)(hf:P.funcs[f]? =some fn)(hb:fn.body=some c)(hn:yp P f){args:List PV}{h0 h1:List Chunk}{r:PV}(hl:args.length<=fn.ntmps)
 (hle:h0.length<=h1.length) (Ew:aq h0.length args=true) (hbh:aH h0.length h0=true) (hp:wA P fn.ntmps h0.length c (A7 P h0.length T fn.results.toList r h1) (si args 0) h0):MSpec P f args h0 r h1:=by
 refine⟨hn,hle,Ew,hbh,fun X hXP hXn sY w cx vs hc C6=>?_⟩;subst hXP;have VR:vs.length=args.length:=C6.1.symm;have oD:lF {X with n:=fn.ntmps} (bS (si args 0) h0) {tmps:=vs.toArray++Za (fn.ntmps - vs.toArray.size) undef,defers:=[]} w:=
  ⟨cx,by simp;omega,rfl,hc.ext,hc.inv,hc.fresh,hc.mu,hc.new,hc.apart,fun t=>FC C6 t,hc.chunk,hc.lent⟩
 refine calls_of_wp hf hb (wp_mono (hp {X with n:=fn.ntmps} rfl rfl sY _ _ oD) fun ex a w' hq=>?_);obtain⟨e,h,⟨hx,ps,gL,a1G⟩,hr⟩:=hq;obtain⟨c2,Ay⟩:=hr;obtain⟨v,cr,bC⟩:=Kf (X:={X with n:=fn.ntmps}) co Ay gL;have hr3:lF {X with n:=1} (bS [(0,A6 ps)] h) {tmps:=#[v],defers:=[]} w':=by
  refine⟨c2,rfl,rfl,Ay.ext,Ay.inv,Ay.fresh,Ay.mu,Ay.new,Ay.apart,fun t=>?_,Ay.chunk,Ay.lent⟩;simp only[bS,fF];by_cases ht:t=0
  ·subst ht;rw[aj rfl];exact bC
  ·rw[af ht];exact .any _
 obtain⟨c3,Vh⟩:=a1G {X with n:=1} rfl rfl sY _ _ hr3;have hv3:RepP c3 w' r v:=Vh.env 0;have cp:RealC X (bS [] h1) Mg w' c3:=⟨hXn.symm,rfl,Vh.ext,Vh.inv,Vh.fresh,Vh.mu,Vh.new,Vh.apart,fun t=> .any _,Vh.chunk,Vh.lent⟩;rcases hx with rfl|rfl
 ·exact⟨Ay.defers,v,cr,v,c3,rfl,hv3,cp⟩
 ·exact⟨Ay.defers,v,cr,v,c3,rfl,hv3,cp⟩
theorem a3T {p:Prop}(h:p:=by
 intro w xs ys x y op hx hy mP;match xs,ys,hx,hy with
 |[a0,a1,a2,a3],[b0,b1,b2,b3],_,_=>
  clear hx hy;rcases mP with rfl|rfl<;>(simp only[Xm,Xr];go_simp)<;>by_cases h0:a0=b0<;>by_cases h1:a1=b1<;>by_cases h2:a2=b2<;>by_cases h3:a3=b3<;>simp[bne,h0,h1,h2,h3]):p:=h
theorem a4b {p:Prop}(h:p:=by
 intro w xs ys x y op hx hy mP;match xs,ys,hx,hy with
 |[a0,a1],[b0,b1],_,_=>
  clear hx hy;rcases mP with rfl|rfl<;>(simp only[Xm,Xr];go_simp)<;>by_cases h0:a0=b0<;>by_cases h1:a1=b1<;>simp[bne,h0,h1]):p:=h
def A8:Nat->Option TI
 |3=>some {zero:=[.int .i64 0],int:=some .i64}
 |4=>some {bytes:=1,zero:=[.bool false],kind:=1}
 |37=>some {zero:=[.int .i64 0],int:=some .i64}
 |23=>some {agg:=true,size:=2,bytes:=16,zero:=[.int .i64 0,.int .i64 0],fields:=[(0,1),(1,1)]}
 |149=>some {agg:=true,size:=3,bytes:=40,zero:=[.int .i64 0,.int .i64 0,.slice none 0 0],fields:=[(0,2),(2,1)]}
 |25=>some {agg:=true,size:=4,bytes:=32,zero:=[.int .i64 0,.int .i64 0,.int .i64 0,.int .i64 0],fields:=[(0,1),(1,1),(2,1),(3,1)]}
 |96=>some {agg:=true,size:=5,bytes:=40,zero:=[.int .i64 0,.int .i64 0,.int .i64 0,.int .i64 0,.int .i64 0],fields:=[(0,2),(2,1),(3,1),(4,1)]}
 |83=>some {agg:=true,size:=9,bytes:=88,zero:=[.int .i64 0,.int .i64 0,.int .i64 0,.int .i64 0,.int .i64 0,.int .i64 0,.int .i64 0,.int .i64 0,.slice none 0 0],fields:=[(0,1),(1,1),(2,2),(4,4),(8,1)]}
 |30=>some {agg:=true,size:=2,bytes:=32,zero:=[.int .i64 0,.slice none 0 0],fields:=[(0,1),(1,1)]}
 |110=>some {agg:=true,size:=2,bytes:=32,zero:=[.int .i64 0,.slice none 0 0],fields:=[(0,1),(1,1)]}
 |107=>some {agg:=true,size:=4,bytes:=48,zero:=[.int .i64 0,.int .i64 0,.int .i64 0,.slice none 0 0],fields:=[(0,1),(1,2),(3,1)]}
 |100=>some {agg:=true,size:=3,bytes:=24,zero:=[.int .i64 0,.int .i64 0,.int .i64 0],fields:=[(0,2),(2,1)]}
 |88=>some {agg:=true,size:=3,bytes:=56,zero:=[.int .i64 0,.slice none 0 0,.slice none 0 0],fields:=[(0,1),(1,1),(2,1)]}
 |91=>some {agg:=true,size:=2,bytes:=16,zero:=[.int .i64 0,.int .i64 0],fields:=[(0,1),(1,1)]}
 |34=>some {agg:=true,size:=2,bytes:=48,zero:=[.slice none 0 0,.slice none 0 0],fields:=[(0,1),(1,1)]}
 |36=>some {agg:=true,size:=4,bytes:=80,zero:=[.int .i64 0,.slice none 0 0,.slice none 0 0,.slice none 0 0],fields:=[(0,2),(2,2)]}
 |27=>some {agg:=true,size:=10,bytes:=80,zero:=[.int .i64 0,.int .i64 0,.int .i64 0,.int .i64 0,.int .i64 0,.int .i64 0,.int .i64 0,.int .i64 0,.int .i64 0,.int .i64 0],fields:=[(0,1),(1,1),(2,1),(3,1),(4,2),(6,4)]}
 |47=>some {agg:=true,size:=4,bytes:=32,zero:=[.int .i64 0,.int .i64 0,.int .i64 0,.int .i64 0],fields:=[(0,1),(1,2),(3,1)]}
 |108=>some {bytes:=24,zero:=[.slice none 0 0],elem:=some 3}
 |212=>some {bytes:=24,zero:=[.slice none 0 0],elem:=some 4}
 |147=>some {bytes:=24,zero:=[.slice none 0 0],elem:=some 23}
 |81=>some {bytes:=24,zero:=[.slice none 0 0],elem:=some 96}
 |28=>some {bytes:=24,zero:=[.slice none 0 0],elem:=some 83}
 |105=>some {bytes:=24,zero:=[.slice none 0 0],elem:=some 110}
 |86=>some {bytes:=24,zero:=[.slice none 0 0],elem:=some 107}
 |85=>some {bytes:=24,zero:=[.slice none 0 0],elem:=some 100}
 |31=>some {bytes:=24,zero:=[.slice none 0 0],elem:=some 88}
 |32=>some {bytes:=24,zero:=[.slice none 0 0],elem:=some 91}
 |40=>some {bytes:=24,zero:=[.slice none 0 0],elem:=some 27}
 |43=>some {bytes:=24,zero:=[.slice none 0 0],elem:=some 47}
 |137=>some {agg:=true,size:=3,bytes:=24,zero:=[.int .i64 0,.int .i64 0,.int .i64 0],fields:=[(0,2),(2,1)]}
 |128=>some {agg:=true,size:=18,bytes:=192,zero:=[.int .i64 0,.slice none 0 0,.slice none 0 0,.slice none 0 0,.int .i64 0,.int .i64 0,.int .i64 0,.int .i64 0,.int .i64 0,.int .i64 0,.int .i64 0,.int .i64 0,.int .i64 0,.int .i64 0,.int .i64 0,.int .i64 0,.int .i64 0,.int .i64 0],fields:=[(0,4),(4,10),(14,4)]}
 |5=>some {bytes:=1,zero:=[.int .u8 0],int:=some .u8}
 |9=>some {bytes:=16,zero:=[.string ByteArray.empty],kind:=2}
 |21=>some {bytes:=4,zero:=[.int .i32 0],int:=some .i32}
 |74=>some {bytes:=24,zero:=[.slice none 0 0],elem:=some 5}
 |78=>some {agg:=true,size:=2,bytes:=32,zero:=[.pointer none,.slice none 0 0],fields:=[(0,2)]}
 |111=>some {bytes:=24,zero:=[.slice none 0 0],elem:=some 9}
 |114=>some {agg:=true,size:=9,bytes:=72,zero:=[.int .i64 0,.int .i64 0,.int .i64 0,.int .i64 0,.int .i64 0,.int .i64 0,.int .i64 0,.int .i64 0,.int .i64 0],arr:=some (9,3)}
 |115=>some {zero:=[.int .u64 0],int:=some .u64}
 |123=>some {zero:=[.pointer none],kind:=3}
 |125=>some {zero:=[.pointer none],kind:=3}
 |129=>some {bytes:=4,zero:=[.int .u32 0],int:=some .u32}
 |141=>some {bytes:=16,zero:=[.nilIface],kind:=5}
 |178=>some {zero:=[.pointer none],kind:=3}
 |183=>some {zero:=[.pointer none],kind:=3}
 |185=>some {zero:=[.pointer none],kind:=3}
 |194=>some {zero:=[.pointer none],kind:=3}
 |256=>some {zero:=[.pointer none],kind:=3}
 |261=>some {zero:=[.pointer none],kind:=3}
 |317=>some {zero:=[.int .u64 0],int:=some .u64}
 |274=>some {zero:=[.map none],kind:=4,mp:=some (1,false)}
 |275=>some {zero:=[.map none],kind:=4,mp:=some (1,false)}
 |134=>some {zero:=[.map none],kind:=4,mp:=some (3,true)}
 |_=>none
theorem Tz:∀t ti,A8 t=some ti->aW prog t=some ti:=by
 intro t ti h;unfold A8 at h;split at h<;>first|(cases h;kernel_rfl)|cases h
theorem Mu:E3 prog 23 2:=a4b
theorem TA:E3 prog 25 4:=a3T
theorem Pt:E3 prog 96 5:=by
 intro w xs ys x y op hx hy mP;match xs,ys,hx,hy with
 |[a0,a1,a2,a3,a4],[b0,b1,b2,b3,b4],_,_=>
  clear hx hy;rcases mP with rfl|rfl<;>(simp only[Xm,Xr];go_simp)<;>by_cases h0:a0=b0<;>by_cases h1:a1=b1<;>by_cases h2:a2=b2<;>by_cases h3:a3=b3<;>by_cases h4:a4=b4<;>simp[bne,h0,h1,h2,h3,h4]
theorem Pu:E3 prog 100 3:=by
 intro w xs ys x y op hx hy mP;match xs,ys,hx,hy with
 |[a0,a1,a2],[b0,b1,b2],_,_=>
  clear hx hy;rcases mP with rfl|rfl<;>(simp only[Xm,Xr];go_simp)<;>by_cases h0:a0=b0<;>by_cases h1:a1=b1<;>by_cases h2:a2=b2<;>simp[bne,h0,h1,h2]
theorem TB:E3 prog 91 2:=a4b
theorem Mv:E3 prog 47 4:=a3T
def Pv:Nat->Option Nat
 |23=>some 2
 |25=>some 4
 |96=>some 5
 |100=>some 3
 |91=>some 2
 |47=>some 4
 |_=>none
theorem TC:MapOK prog 274 1 false:=BR underlying274 underlying3 aJ
theorem TD:MapOK prog 275 1 false:=BR underlying275 underlying3 aJ
theorem TE:KeyOK prog 137 3 true:=by
 refine O6 aJ (fun em w xs hx=>?_) (fun w xs ys hx hy=>?_)
 ·match xs,hx with
  |[a0,a1,a2],_=>
   clear hx;simp only[j1,if_true,Xm,Xr];have key:∀n,(Instr.checkKey em (n+1+1+1) 137 (.agg #[.int .i64 a0,.int .i64 a1,.int .i64 a2])).run prog w= .ok () w:=by
    intro n;simp[Instr.checkKey,run_underlying underlying3,run_underlying underlying23,run_underlying underlying137,part,isAgg,go_sem]
   exact key 9997
 ·match xs,ys,hx,hy with
  |[a0,a1,a2],[b0,b1,b2],_,_=>
   clear hx hy;simp only[j1,if_true,Xm,Xr];show (Op.equalIn 10000 137 _ _).run _ _=_;go_simp
   by_cases h0:a0=b0<;>by_cases h1:a1=b1<;>by_cases h2:a2=b2<;>simp[h0,h1,h2]
theorem TF:MapOK prog 134 3 true:=by
 obtain⟨i,hi,hz⟩:=XJ.1 (show (prog.info? 3).map (·.zero)=some (some (.int .i64 0)) by kernel_rfl);exact⟨137,3,i,underlying134,hi,hz,TE⟩
theorem TG:∀t ti n s,A8 t=some ti->ti.mp=some (n,s)->MapOK prog t n s:=by
 intro t ti n s h hm;unfold A8 at h;split at h
 ·cases h;cases hm
 ·cases h;cases hm
 ·cases h;cases hm
 ·cases h;cases hm
 ·cases h;cases hm
 ·cases h;cases hm
 ·cases h;cases hm
 ·cases h;cases hm
 ·cases h;cases hm
 ·cases h;cases hm
 ·cases h;cases hm
 ·cases h;cases hm
 ·cases h;cases hm
 ·cases h;cases hm
 ·cases h;cases hm
 ·cases h;cases hm
 ·cases h;cases hm
 ·cases h;cases hm
 ·cases h;cases hm
 ·cases h;cases hm
 ·cases h;cases hm
 ·cases h;cases hm
 ·cases h;cases hm
 ·cases h;cases hm
 ·cases h;cases hm
 ·cases h;cases hm
 ·cases h;cases hm
 ·cases h;cases hm
 ·cases h;cases hm
 ·cases h;cases hm
 ·cases h;cases hm
 ·cases h;cases hm
 ·cases h;cases hm
 ·cases h;cases hm
 ·cases h;cases hm
 ·cases h;cases hm
 ·cases h;cases hm
 ·cases h;cases hm
 ·cases h;cases hm
 ·cases h;cases hm
 ·cases h;cases hm
 ·cases h;cases hm
 ·cases h;cases hm
 ·cases h;cases hm
 ·cases h;cases hm
 ·cases h;cases hm
 ·cases h;cases hm
 ·cases h;cases hm
 ·cases h;cases hm
 ·cases h;cases hm
 ·cases h;cases hm
 ·cases h;cases hm;exact TC
 ·cases h;cases hm;exact TD
 ·cases h;cases hm;exact TF
 ·cases h
theorem ag:TabOK prog A8 Pv:=by
 refine⟨Tz,fun t n h=>?_,TG⟩;unfold Pv at h;split at h
 ·cases h;exact Mu
 ·cases h;exact TA
 ·cases h;exact Pt
 ·cases h;exact Pu
 ·cases h;exact TB
 ·cases h;exact Mv
 ·cases h
theorem bY {P:Program}{f:Nat}{fn:Func}{c:Code}(hf:P.funcs[f]? =some fn)(a1H:(fn.name== "runtime.NumGoroutine")=false)(hb:fn.body=some c):yp P f:=by
 intro args w;simp[callFunc,hf,hb];simpa using a1H
theorem a0P:(some true==some true)=true:=rfl
theorem a0Q:(some false==some false)=true:=rfl
theorem a0R:(some true==some false)=false:=rfl
theorem a0S:(some false==some true)=false:=rfl
theorem a0T:((none:Option Bool)==some true)=false:=rfl
theorem a0U:((none:Option Bool)==some false)=false:=rfl
section
variable {P:Program}{n m:Nat}{T:Nat->Option TI}{Q:Nat->Option Nat}{K:Exit->cu->List Chunk->Prop}{e:cu}{h:List Chunk}
def yK (C:cu->List Chunk->Prop)(K:Exit->cu->List Chunk->Prop):Exit->cu->List Chunk->Prop
 | .normal,e,h=>C e h
 |x,e,h=>K x e h
theorem Kg {a b:Code}(hp:∀C:cu->List Chunk->Prop,(∀e h,wA P n m b K e h->C e h)->wA P n m a (yK C K) e h):wA P n m (.seq a b) K e h:=by
 intro X hX hn sY ac w hr;have:=hp (fun e h=>wA P n m b K e h) (fun _ _ h=>h) X hX hn sY ac w hr;refine wp_seq (wp_mono this fun ex a' w' hq=>?_);obtain⟨e',h',hk,hr'⟩:=hq;cases ex with
 |normal=>exact hk X hX hn sY a' w' hr'
 |_=>exact⟨e',h',hk,hr'⟩
def A9 (id:Nat)(C:cu->List Chunk->Prop)(K:Exit->cu->List Chunk->Prop):Exit->cu->List Chunk->Prop
 | .normal,e,h=>C e h
 | .exit i,e,h=>if i=id then C e h else K (.exit i) e h
 |x,e,h=>K x e h
theorem Mw {id:Nat}{c:Code}(hp:∀C:cu->List Chunk->Prop,(∀e h,K .normal e h->C e h)->wA P n m c (A9 id C K) e h):wA P n m (.block id c) K e h:=by
 intro X hX hn sY ac w hr;have:=hp (fun e h=>K .normal e h) (fun _ _ h=>h) X hX hn sY ac w hr;refine wp_block (wp_mono this fun ex a' w' hq=>?_);obtain⟨e',h',hk,hr'⟩:=hq;cases ex with
 |exit i=>
  simp only[Exit.inBlock,A9]at*;by_cases hi:i=id
  ·rw[aj hi]at hk ⊢;exact⟨e',h',hk,hr'⟩
  ·rw[af hi]at hk ⊢;exact⟨e',h',hk,hr'⟩
 |_=>exact⟨e',h',hk,hr'⟩
def Wl (P:Program)(g:Option Bool)(r:SR)(dst:Option Nat)(e:cu)(h:List Chunk)(sm:List (List Nat × List Nat))(R:cu->List Chunk->List (List Nat × List Nat)->Prop):Prop:=
 match g with
 |some true=>DE P r dst e h sm R
 |some false=>R (ig e dst (.d (.v undef))) h (([],[])::sm)
 |none=>False
section
variable {sm:List (List Nat × List Nat)}{dst:Option Nat}{R:cu->List Chunk->List (List Nat × List Nat)->Prop}
theorem Wm {g:Nat}{ps:List PV}{ds:List D}{r:D}(hv:vwL (aD h) ps=some ds)(hp:ai P g ds r)(hf:Wk (aD h) ps=[]\/r.flat=true)(hR:R (ig e dst (.d r)) h (([],Wk (aD h) ps)::sm)):DE P (.call g ps) dst e h sm R:=
 .inl ⟨ds,r,hv,hp,hf,hR⟩
theorem Wn (ls:List Nat){g:Nat}{ps args:List PV}{h0 h1:List Chunk}{r:PV}(hM:MSpec P g args h0 r h1)(mL:ps=jH (eW ls h.length) args)(hl:ls.length=h0.length)(mM:ls.Nodup)(hlt:∀k∈ls,k < h.length)(jX:bM (aD h) (eW ls h.length) 0 h0)
 (hR:R (ig e dst (ren (eW ls h.length) r)) (jp (eW ls h.length) 0 h1 h) ((sh ls h.length h1.length,sh ls h.length h1.length)::sm)):DE P (.call g ps) dst e h sm R:=
 .inr (.inl ⟨ls,args,h0,r,h1,hM,mL,hl,mM,hlt,jX,hR⟩)
end
theorem Mx {draw:Bool}{ops:Array Oper}{ds:List (Option Nat)}{o:Oper}{l:List Oper}{sm:List (List Nat × List Nat)}{K:cu->List Chunk->Prop}(hd:Ps n o=true)
 (hp:∀R:cu->List Chunk->List (List Nat × List Nat)->Prop,(∀e h sm,xg P n T Q draw ops ds l e h sm K->R e h sm)->Wl P (vd ds e o) (SL T Q e h o) o.dst e h sm R):xg P n T Q draw ops ds (o::l) e h sm K:=by
 have hp:=hp (xg P n T Q draw ops ds l · · · K) fun _ _ _ h=>h;unfold xg;unfold Wl at hp;split at hp
 ·rename_i g hg;rw[hg];exact⟨hd,fun _=>hp,fun h=>by cases h⟩
 ·rename_i g hg;rw[hg];exact⟨hd,(fun h=>(by cases h)),fun _=>hp⟩
 ·exact hp.elim
theorem Pw {c:Operand}{a b:Code}{t:Bool}(hc:dX e c= .d (.v (.bool t)))(h1:t=true->wA P n m a K e h)(h2:t=false->wA P n m b K e h):wA P n m (.cond c a b) K e h:=by
 intro X hX hn sY ac w hr;have hv:ac.eval c= .bool t:=by
  obtain⟨cx,lg⟩:=hr;exact dt lg ((aF e h c).trans hc)
 refine wp_cond hv ?_;cases t with
 |true=>exact h1 rfl X hX hn sY ac w hr
 |false=>exact h2 rfl X hX hn sY ac w hr
theorem Px (h1:K .normal e h):wA P n m .skip K e h:=fun X _ _ _ a w hr=>wp_skip ⟨e,h,h1,hr⟩
theorem Py {id:Nat}(h1:K (.exit id) e h):wA P n m (.exit id) K e h:=fun X _ _ _ a w hr=>wp_exit ⟨e,h,h1,hr⟩
theorem TH (h1:K .ret e h):wA P n m .ret K e h:=fun X _ _ _ a w hr=>wp_ret ⟨e,h,h1,hr⟩
theorem My {l:Nat}(h1:K .normal e h):wA P n m (.label l) K e h:=fun X _ _ _ a w hr=>wp_label ⟨e,h,h1,hr⟩
theorem FF {c:Code}(I:Nat->cu->List Chunk->Prop)(mm:Nat)(e1:cu)(h1:List Chunk)(h0:I mm e1 h1)(hw:eS P n m e h e1 h1)
 (hr:∀k e h,I k e h->∀C:cu->List Chunk->Prop,(∀k' e1 h1 e h,k' < k->I k' e1 h1->eS P n m e h e1 h1->C e h)->wA P n m c (yK C K) e h):wA P n m (.loop c) K e h:=by
 intro X hX hn sY a w oD;refine wp_loop_ghost (fun k a w=>∃e h,I k e h/\lF X (bS e h) a w) mm ⟨e1,h1,h0,hw X hX hn sY a w oD⟩ ?_;rintro k a w ⟨e,h,hI,oD⟩;have:=hr k e h hI (fun e' h'=>∃k' e1 h1,k' < k/\I k' e1 h1/\eS P n m e' h' e1 h1) (fun k' e1 h1 e h a b c=>⟨k',e1,h1,a,b,c⟩) X hX hn sY a w oD;refine wp_mono this fun ex a' w' hq=>?_;obtain⟨e',h',hk,hr'⟩:=hq;cases ex with
 |normal=>
  obtain⟨k',e2,h2,hlt,nL,cj⟩:=hk;exact⟨k',hlt,e2,h2,nL,cj X hX hn sY a' w' hr'⟩
 |_=>exact⟨e',h',hk,hr'⟩
end
def rg:Nat->List Nat
 |0=>[]
 |n+1=>n::rg n
theorem ve {P:Program}{n m:Nat}{e e':cu}{h:List Chunk}(hl:∀t,fF e' t= .any\/fF e' t=fF e t):eS P n m e h e' h:=by
 intro X _ _ _ a w hr;obtain⟨c,hc⟩:=hr;refine⟨c,hc.size,hc.defers,hc.ext,hc.inv,hc.fresh,hc.mu,hc.new,hc.apart,fun t=>?_,hc.chunk,hc.lent⟩;show RepP c w (fF e' t) _;rcases hl t with h|h
 ·rw[h];exact .any _
 ·rw[h];exact hc.env t
theorem am:prog.follows .mixedOrders=true:=aJ
theorem eS.refl (P:Program)(n m:Nat)(e:cu)(h:List Chunk):eS P n m e h e h:=fun _ _ _ _ _ _ h=>h
theorem iC (l:List (List D))(i:Nat):(ab l)[i]? =(l[i]?).map (·.map .d):=by simp[ab]
theorem aG (l:List (List D)):(ab l).length=l.length:=by simp[ab]
theorem aI (a b:List (List D)):ab a++ab b=ab (a++b):=by simp[ab]
theorem qQ {h:List Chunk}{k:Nat}(hk:aD h k≠ .none):k < h.length:=by
 induction h generalizing k with
 |nil=>simp[aD]at hk
 |cons c l ih=>
  cases k with
  |zero=>simp
  |succ k=>simpa using ih (by simpa[aD]using hk)
def Cx.cut (c:Cx)(n:Nat):Cx:={M:=c.M,bl:=fun k=>if k < n then c.bl k else none,ov:=fun k g=>if k < n then c.ov k g else none}
theorem RepP.cut {c:Cx}{w:World}{n:Nat}{p:PV}{v:Value}(h:RepP c w p v):au n p=true->RepP (c.cut n) w p v:=by
 induction h with
 |d x v h=>intro _;exact .d x v h
 |any v=>intro _;exact .any v
 |ptr k off b h=>intro hb;simp only[au,decide_eq_true_eq]at hb;exact .ptr k off b (by show (if k < n then c.bl k else none)=_;rw[aj hb];exact h)
 |own k g v h h1=>intro hb;simp only[au,decide_eq_true_eq]at hb;exact .own k g v (by show (if k < n then c.ov k g else none)=_;rw[aj hb];exact h) h1
 |rp k g sz i j b m cap h=>intro hb;simp only[au,decide_eq_true_eq]at hb;exact .rp k g sz i j b m cap (by show (if k < n then c.ov k g else none)=_;rw[aj hb];exact h)
 |osl k g sz a m b o N cap h hn hc h2=>intro hb;simp only[au,decide_eq_true_eq]at hb;exact .osl k g sz a m b o N cap (by show (if k < n then c.ov k g else none)=_;rw[aj hb];exact h) hn hc h2
 |mref k b h=>intro hb;simp only[au,decide_eq_true_eq]at hb;exact .mref k b (by show (if k < n then c.bl k else none)=_;rw[aj hb];exact h)
 |agg caps vs hl h1 bC ih=>
  intro hb;simp only[au]at hb;exact .agg caps vs hl h1 fun j d x hj hx=>ih j d x hj hx (km hb d (Xl hj))
 |tup caps vs hl bC ih=>
  intro hb;simp only[au]at hb;exact .tup caps vs hl fun j d x hj hx=>ih j d x hj hx (km hb d (Xl hj))
 |clo g caps vs hl bC ih=>
  intro hb;simp only[au]at hb;exact .clo g caps vs hl fun j d x hj hx=>ih j d x hj hx (km hb d (Xl hj))
theorem FG:∀{e e':cu},Mf e e'->∀t,fF e' t= .any\/fF e' t=fF e t
 |_,[],_,_=> .inl rfl
 |e,(t',p)::l,⟨h1,h2⟩,t=>by
  simp only[fF];by_cases ht:t=t'
  ·rw[aj ht,ht];exact .inr h1.symm
  ·rw[af ht];exact FG h2 t
theorem qR:∀(h x:List Chunk) (k:Nat),k < h.length->aD (h++x) k=aD h k
 |c::l,x,0,_=>rfl
 |c::l,x,k+1,hk=>by simpa[aD]using qR l x k (by simpa using hk)
theorem oQ:∀(h:List Chunk) (k:Nat),h.length<=k->aD h k= .none
 |[],_,_=>rfl
 |c::l,0,h=>by simp at h
 |c::l,k+1,h=>by simpa[aD]using oQ l k (by simpa using h)
theorem eF {P:Program}{n m:Nat}{e e':cu}{h h':List Chunk}(x:List Chunk)(hm:m<=h'.length)(hh:h=h'++x)(he:Mf e e')(hb:eJ h'.length e'=true)(hbh:aH h'.length h'=true):eS P n m e h e' h':=by
 intro X _ _ sY a w hr;obtain⟨c,hc⟩:=hr;subst hh;have hf:=hc.freeze ((X8 x.length).map (h'.length+ ·));have gz:∀k,k∈(X8 x.length).map (h'.length+ ·)↔h'.length<=k/\k < h'.length+x.length:=by
  intro k;simp only[XN,YS];constructor
  ·rintro⟨j,hj,rfl⟩;omega
  ·intro hk;exact⟨k - h'.length,by omega,by omega⟩
 have Bu:∀k,k < h'.length->cH (((X8 x.length).map (h'.length+ ·)).map fun k=>(k,.gone)) (aD (h'++x)) k=aD h' k:=by
  intro k hk;rw[nW,af (fun h=>by have:=(gz k).1 h;omega),qR h' x k hk]
 have Lz:∀k,h'.length<=k->∀c:Cx,c.block k (cH (((X8 x.length).map (h'.length+ ·)).map fun k=>(k,.gone)) (aD (h'++x)) k)=none:=by
  intro k hk c;rw[nW];split
  ·rfl
  ·rename_i hn;have:h'.length+x.length<=k:=by
    rcases XM k (h'.length+x.length)with h1|h1
    ·exact absurd ((gz k).2 ⟨hk,h1⟩) hn
    ·exact h1
   rw[oQ _ k (by simpa using this)];rfl
 generalize mX:({c with M:=m5 c (bS e (h'++x)).heap ((X8 x.length).map (h'.length+ ·))}:Cx)=cc at hf;have cz:∀k,(cc.cut h'.length).block k (aD h' k)=if k < h'.length then cc.block k (aD h' k)else none:=by
  intro k;by_cases hk:k < h'.length
  ·rw[aj hk];cases aD h' k<;>simp[Cx.block,Cx.cut,hk]
  ·rw[af hk,oQ h' k aa];rfl
 have hold:∀k b,(cc.cut h'.length).block k (aD h' k)=some b->cc.block k (cH (((X8 x.length).map (h'.length+ ·)).map fun k=>(k,.gone)) (aD (h'++x)) k)=some b:=by
  intro k b hb;rw[cz]at hb;split at hb
  ·rename_i hk;rw[Bu k hk];exact hb
  ·cases hb
 refine⟨cc.cut h'.length,hf.size,hf.defers,hf.ext,hf.inv,hf.fresh,fun b=>?_,fun k b hb=>hf.new k b (hold k b hb),fun k k' b hb hb'=>hf.apart k k' b (hold k b hb) (hold k' b hb'),fun t=>?_,fun k=>?_,fun k hk=>?_⟩
 ·show cc.M b↔_;rw[hf.mu b];constructor
  ·rintro (h0|⟨k,hk⟩)
   ·exact .inl h0
   ·refine .inr ⟨k,?_⟩;show (cc.cut h'.length).block k (aD h' k)=_;rw[cz];rcases XM k h'.length with h1|h1
    ·rw[aj h1];have:=Bu k h1;simp only[bS]at hk;rw[this]at hk;exact hk
    ·simp only[bS]at hk;rw[Lz k h1]at hk;cases hk
  ·rintro (h0|⟨k,hk⟩)
   ·exact .inl h0
   ·exact .inr ⟨k,hold k b hk⟩
 ·show RepP (cc.cut h'.length) w (fF e' t) _;rcases FG he t with h0|h0
  ·rw[h0];exact .any _
  ·have h1:=yu hb t;rw[h0]at h1 ⊢;exact(hf.env t).cut h1
 ·show ChunkOK (cc.cut h'.length) w k (aD h' k);rcases XM k h'.length with h1|h1
  ·have bp:=hf.chunk k;simp only[bS]at bp;rw[Bu k h1]at bp;have LB:=uT hbh k;have sW:(cc.cut h'.length).bl k=cc.bl k:=by show (if k < h'.length then cc.bl k else none)=_;rw[aj h1]
   have ep:∀g,(cc.cut h'.length).ov k g=cc.ov k g:=fun g=>by show (if k < h'.length then cc.ov k g else none)=_;rw[aj h1]
   cases U9:aD h' k with
   |none=>rw[U9]at bp;cases bp with|none q1 q2=>exact .none (by rw[sW];exact q1) (fun g=>by rw[ep];exact q2 g)
   |gone=>exact .gone
   |box T cells=>
    rw[U9]at bp LB;cases bp with
    |box _ _ b vs q1 q2 q3 q4=>
     exact .box T cells b vs (by rw[sW];exact q1) q2 ⟨q3.1,fun j d v hj hv=>(q3.2 j d v hj hv).cut (km (by simpa[aR]using LB) d (Xl hj))⟩ q4
   |mp nB sB ents=>
    rw[U9]at bp;cases bp with
    |mp _ _ _ b q1 q2 q3=>exact .mp nB sB ents b (by rw[sW];exact q1) q2 q3
   |it nB sB ents seen=>
    rw[U9]at bp;cases bp with
    |it _ _ _ _ b bm q1 q2 q3 q4=>exact .it nB sB ents seen b bm (by rw[sW];exact q1) q2 q3 q4
   |row E sz g rows=>
    rw[U9]at bp LB;cases bp with
    |row _ _ _ _ v xs q1 q2 q3 q4 q5 q6=>exact .row E sz g rows v xs (by rw[ep];exact q1) q2 ⟨q3.1,fun j d v hj hv=>(q3.2 j d v hj hv).cut (km (wx (by simpa[aR]using LB)) d (Xl hj))⟩ q4 q5 (fun g' hg=>by rw[ep];exact q6 g' hg)
  ·rw[oQ h' k h1];refine .none ?_ fun g=>?_
   ·show (if k < h'.length then cc.bl k else none)=_;rw[af aa]
   ·show (if k < h'.length then cc.ov k g else none)=_;rw[af aa]
 ·have hk':k < h'.length:=aa;obtain⟨q1,q2⟩:=hf.lent k hk;refine⟨?_,fun g v hv=>?_⟩
  ·show (if k < h'.length then cc.bl k else none)=_;rw[aj hk'];exact q1
  ·show (if k < h'.length then cc.ov k g else none)=_;rw[aj hk'];exact q2 g v hv
theorem eS.trans {P:Program}{n m:Nat}{e e' e'':cu}{h h' h'':List Chunk}(h1:eS P n m e h e' h')(h2:eS P n m e' h' e'' h''):eS P n m e h e'' h'':=fun X hX hn hm a w hr=>h2 X hX hn hm a w (h1 X hX hn hm a w hr)
theorem kP (h:List Chunk)(c:Chunk)(k:Nat):aD (h++[c]) k=if k=h.length then c else aD h k:=by
 rcases Y7 k h.length with h1|h1|h1
 ·rw[qR h [c] k h1,af aa]
 ·subst h1;rw[aj rfl];induction h with
  |nil=>rfl
  |cons a l ih=>exact ih
 ·rw[af aa,oQ _ k aK,oQ h k aa]
theorem cZ {P:Program}{n m:Nat}{e:cu}{h:List Chunk}(pA:m<=h.length)(t E sz:Nat)(ht:fF e t= .d (.v (.slice none 0 0))):eS P n m e h ((t,.own h.length 0)::e) (h++[.row E sz 0 []]):=by
 intro X _ _ sY a w hr;obtain⟨c,hc⟩:=hr;obtain⟨c',q1,q2⟩:=hc.new_row (k:=h.length) (w':=w) (ic h) aa E sz [] (.slice none 0 0) [] (Below.refl _ _) .nil (fun b hb=>by cases hb) ⟨rfl,fun j d x h=>by simp at h⟩ ah ah;have hv:a.tmps.getD t undef= .slice none 0 0:=hc.bool ht;refine⟨c',q1.size,q1.defers,q1.ext,q1.inv,q1.fresh,?_,?_,?_,fun t'=>?_,?_,q1.lent⟩
 ·intro b;have:=q1.mu b;simp only[tn,bS]at this ⊢;simpa[kP]using this
 ·intro k b;have:=q1.new k b;simp only[tn,bS]at this ⊢;simpa[kP]using this
 ·intro k k' b;have:=q1.apart k k' b;simp only[tn,bS]at this ⊢;simpa[kP]using this
 ·simp only[bS,fF];by_cases h1:t'=t
  ·subst h1;rw[aj rfl,hv];exact q2
  ·rw[af h1];exact q1.env t'
 ·intro k;have:=q1.chunk k;simp only[tn,bS]at this ⊢;simpa[kP]using this
theorem ay {P:Program}{n m:Nat}{e:cu}{h:List Chunk}(pA:m<=h.length)(kb T:Nat)(cells:List PV)(j E sz:Nat)(hk:aD h kb= .box T cells)(hj:cells[j]? =some (.d (.v (.slice none 0 0)))){h':List Chunk}(hh:h'=bD h kb (.box T (aB cells j [.own h.length 0]))++[.row E sz 0 []]):eS P n m e h e h':=by
 intro X _ _ sY a w hr;subst hh;obtain⟨c,hc⟩:=hr;obtain⟨c',q1,q2⟩:=hc.new_row (k:=h.length) (w':=w) (ic h) aa E sz [] (.slice none 0 0) [] (Below.refl _ _) .nil (fun b hb=>by cases hb) ⟨rfl,fun j d x h=>by simp at h⟩ ah ah;have hlt:kb < h.length:=qQ (by rw[hk];simp);have R8:j < cells.length:=(Xn.1 hj).1;have rV:(bD h kb (.box T (aB cells j [.own h.length 0]))).length=h.length:=by
  have:∀(l:List Chunk) (k:Nat) (c:Chunk),k < l.length->(bD l k c).length=l.length:=by
   intro l;induction l with
   |nil=>intro k c hk;simp at hk
   |cons a l ih=>
    intro k c hk;cases k with
    |zero=>rfl
    |succ k=>simp only[bD,Xx];rw[ih k c (by simpa using hk)]
  exact this h kb _ hlt
 have dK:∀k,aD (bD h kb (.box T (aB cells j [.own h.length 0]))++[.row E sz 0 []]) k=if k=h.length then .row E sz 0 []else if k=kb then .box T (aB cells j [.own h.length 0])else aD h k:=by
  intro k;rw[kP,rV,iB aa]
 have hold:∀k,cH [(h.length,Chunk.row E sz 0 [])] (aD h) k=if k=h.length then .row E sz 0 []else aD h k:=fun k=>rfl;have cz:∀k,c'.block k (aD (bD h kb (.box T (aB cells j [.own h.length 0]))++[.row E sz 0 []]) k)=c'.block k (cH [(h.length,Chunk.row E sz 0 [])] (aD h) k):=by
  intro k;rw[dK,hold];by_cases h1:k=h.length
  ·rw[aj h1,aj h1]
  ·rw[af h1,af h1];by_cases h2:k=kb
   ·subst h2;rw[aj rfl,hk];rfl
   ·rw[af h2]
 refine⟨c',q1.size,q1.defers,q1.ext,q1.inv,q1.fresh,?_,?_,?_,q1.env,?_,q1.lent⟩
 ·intro b;have:=q1.mu b;simp only[bS]at this ⊢;simpa only[cz]using this
 ·intro k b;have:=q1.new k b;simp only[bS]at this ⊢;rwa [cz]
 ·intro k k' b;have:=q1.apart k k' b;simp only[bS]at this ⊢;rwa [cz,cz]
 ·intro k;have bp:=q1.chunk k;simp only[bS]at bp ⊢;rw[dK];rw[hold]at bp;by_cases h1:k=h.length
  ·rw[aj h1]at bp ⊢;exact bp
  ·rw[af h1]at bp ⊢;by_cases h2:k=kb
   ·subst h2;rw[aj rfl];rw[hk]at bp;have Ex:=hc.chunk k;simp only[bS]at Ex;rw[hk]at Ex;cases bp with
    |box _ _ b vs g1 g2 g3 g4=>
     have hvj:vs[j]? =some (.slice none 0 0):=by
      have hjv:j < vs.length:=by rw[<-g3.1];exact R8
      obtain⟨u,hu⟩:∃u,vs[j]? =some u:=⟨_,Xk hjv⟩;have:=g3.2 j _ u hj hu;cases this with
      |d _ _ h=>cases h;exact hu
     have jc:aB vs j [.slice none 0 0]=vs:=by
      apply Yj;intro i;rw[jn (by simp;rw[<-g3.1];exact R8)];split
      ·rename_i hi;obtain rfl:i=j:=by simp at hi;omega
       rw[hvj];simp
      ·rfl
     have uE:bI c' w [.own h.length 0] [.slice none 0 0]:=⟨rfl,fun i d x hd hx=>by
      cases i with
      |zero=>simp at hd hx;subst hd;subst hx;exact q2
      |succ i=>simp at hd⟩
     have lD:=nQ (off:=j) g3 uE aK;rw[jc]at lD;exact .box T _ b vs g1 g2 lD (fun d hd=>(lU hd).elim (g4 d) (fun hd=>by simp at hd;subst hd;rfl))
   ·rw[af h2];exact bp
mutual
def fz (k g:Nat)(d:D):PV->PV
 | .own k' g'=>if k'=k/\g'=g then .d d else .own k' g'
 | .clo f caps=> .clo f (ij k g d caps)
 | .agg l=> .agg (ij k g d l)
 | .tup l=> .tup (ij k g d l)
 | .d x=> .d x
 | .any=> .any
 | .ptr k' o=> .ptr k' o
 | .rp k' g' sz i j=> .rp k' g' sz i j
 | .osl k' g' sz a n=> .osl k' g' sz a n
 | .mref k'=> .mref k'
def ij (k g:Nat)(d:D):List PV->List PV
 |[]=>[]
 |p::l=>fz k g d p::ij k g d l
end
theorem m6 (k g:Nat)(d:D):∀l,ij k g d l=l.map (fz k g d)
 |[]=>rfl
 |p::l=>by simp only[ij,m6 k g d l,Xm]
theorem ce (k g:Nat)(d:D):∀(l:List D),ij k g d (l.map .d)=l.map .d
 |[]=>rfl
 |x::l=>by simp only[Xm,ij,fz,ce k g d l]
def gI (k g:Nat)(d:D):List (List PV)->List (List PV)
 |[]=>[]
 |r::l=>ij k g d r::gI k g d l
theorem qS (k g:Nat)(d:D):∀l,gI k g d l=l.map (·.map (fz k g d))
 |[]=>rfl
 |p::l=>by simp only[gI,qS k g d l,m6,Xm]
theorem bW (k g:Nat)(d:D):∀(l:List (List D)),gI k g d (ab l)=ab l
 |[]=>rfl
 |x::l=>by
  have:=bW k g d l;simp only[ab]at this;simp only[ab,Xm,gI,ce,this]
theorem Kh (k g:Nat)(d:D)(l:List (List PV))(i:Nat)(r:List PV):gI k g d (l.set i r)=(gI k g d l).set i (ij k g d r):=by
 simp only[qS,m6,Z7]
def iS (k g:Nat)(d:D):Chunk->Chunk
 | .box T cells=> .box T (ij k g d cells)
 | .row E sz g' rows=> .row E sz g' (gI k g d rows)
 |c=>c
def jq (k g:Nat)(d:D):cu->cu
 |[]=>[]
 |(t,p)::l=>(t,fz k g d p)::jq k g d l
def gM (k g:Nat)(d:D):Nat->List Chunk->List Chunk
 |_,[]=>[]
 |j,c::l=>(if j=k then .gone else iS k g d c)::gM k g d (j+1) l
theorem FH (k g:Nat)(d:D):∀(e:cu) (t:Nat),fF (jq k g d e) t=fz k g d (fF e t)
 |[],t=>rfl
 |(t',p)::l,t=>by
  simp only[jq,fF];by_cases h:t=t'
  ·rw[aj h,aj h]
  ·rw[af h,af h];exact FH k g d l t
theorem Ki (k g:Nat)(d:D):∀(h:List Chunk) (j i:Nat),aD (gM k g d j h) i=if i+j=k then (if i < h.length then .gone else .none)else iS k g d (aD h i)
 |[],j,i=>by simp[gM,aD,iS]
 |c::l,j,0=>by
  simp only[gM,aD,XE,Xx,ZX,if_true]
 |c::l,j,i+1=>by
  simp only[gM,aD];rw[Ki k g d l (j+1) i];have e1:(i+(j+1)=k)=(i+1+j=k):=by apply propext;omega
  have e2:(i < l.length)=(i+1 < (c::l).length):=by apply propext;simp
  simp only[e1,e2]
theorem av {P:Program}{n m:Nat}{e:cu}{h:List Chunk}(k g E sz:Nat)(rows:List (List D))(hk:aD h k= .row E sz g (ab rows)):eS P n m e h (jq k g (.sl sz rows) e) (gM k g (.sl sz rows) 0 h):=by
 intro X _ _ sY a w hr;obtain⟨c,hc⟩:=hr;have hf:=hc.freeze [k];generalize mX:({c with M:=m5 c (bS e h).heap [k]}:Cx)=cc at hf;have sW:cc.bl=c.bl:=by rw[<-mX]
 have ep:cc.ov=c.ov:=by rw[<-mX]
 have hMM:cc.M=m5 c (aD h) [k]:=by rw[<-mX];rfl
 have hlt:k < h.length:=qQ (by rw[hk];simp);have key:∀(p:PV) (v:Value),RepP cc w p v->RepP cc w (fz k g (.sl sz rows) p) v:=by
  intro p v hp;induction hp with
  |own k' g' v h1 h2=>
   simp only[fz];by_cases e:k'=k/\g'=g
   ·rw[aj e];obtain⟨rfl,rfl⟩:=e;refine .d _ _ ?_;rw[hMM];have hv:bx (bS e h).heap 1 (.own k' g')=some (.sl sz rows):=by
     simp only[bx,bS,hk,if_true,eO,Yg]
    exact mb hc (T:=[k']) 1 hv (fun k2 jV=>by simpa[cY,bS,hk,oO]using jV) (.own k' g' v (by rw[<-ep];exact h1) h2)
   ·rw[af e];exact .own k' g' v h1 h2
  |clo f caps vs hl bC ih=>
   simp only[fz,m6];refine .clo f _ vs (by rw[XB];exact hl) fun j d x hj hx=>?_;rw[Xy,XJ]at hj;obtain⟨y,hy,rfl⟩:=hj;exact ih j y x hy hx
  |agg caps vs hl h1 bC ih=>
   simp only[fz,m6];refine .agg _ vs (by rw[XB];exact hl) (fun d hd=>?_) fun j d x hj hx=>?_
   ·obtain⟨y,hy,rfl⟩:=XN.1 hd;have:=h1 y hy;cases y<;>simp only[fz]<;>first|exact this|(split<;>first|rfl|exact this)
   ·rw[Xy,XJ]at hj;obtain⟨y,hy,rfl⟩:=hj;exact ih j y x hy hx
  |tup caps vs hl bC ih=>
   simp only[fz,m6];refine .tup _ vs (by rw[XB];exact hl) fun j d x hj hx=>?_;rw[Xy,XJ]at hj;obtain⟨y,hy,rfl⟩:=hj;exact ih j y x hy hx
  |d x v h1=>exact .d x v h1
  |any v=>exact .any v
  |ptr k' off b h1=>exact .ptr k' off b h1
  |rp k' g' sz' i j b nn cap h1=>exact .rp k' g' sz' i j b nn cap h1
  |osl k' g' sz' a' nn b o N cap h1 h2 h3 h4=>exact .osl k' g' sz' a' nn b o N cap h1 h2 h3 h4
  |mref k' b h1=>exact .mref k' b h1
 have one:∀(y:PV),y.one=true->(fz k g (.sl sz rows) y).one=true:=by
  intro y hy;cases y<;>simp only[fz]<;>first|exact hy|(split<;>first|rfl|exact hy)
 have keys:∀(l:List PV) (vs:List Value),bI cc w l vs->bI cc w (l.map (fz k g (.sl sz rows))) vs:=by
  intro l vs hl;refine⟨by rw[XB];exact hl.1,fun j d x hj hx=>?_⟩;rw[Xy,XJ]at hj;obtain⟨y,hy,rfl⟩:=hj;exact key _ _ (hl.2 j y x hy hx)
 have dK:∀i,aD (gM k g (.sl sz rows) 0 h) i=iS k g (.sl sz rows) (cH ([k].map fun k=>(k,.gone)) (aD h) i):=by
  intro i;rw[Ki,nW,XT];by_cases e:i=k
  ·subst e;rw[aj rfl,aj hlt,aj ah];rfl
  ·rw[af e,af (by simpa using e)]
 have rt:∀i ch,cc.block i (iS k g (.sl sz rows) ch)=cc.block i ch:=fun i ch=>by cases ch<;>rfl
 refine⟨cc,hf.size,hf.defers,hf.ext,hf.inv,hf.fresh,fun b=>?_,fun i b hb=>?_,fun i j b hb hb'=>?_,fun t=>?_,fun i=>?_,hf.lent⟩
 ·rw[hf.mu b];simp only[bS,dK,rt]
 ·simp only[bS,dK,rt]at hb;exact hf.new i b hb
 ·simp only[bS,dK,rt]at hb hb';exact hf.apart i j b hb hb'
 ·show RepP cc w (fF (jq k g (.sl sz rows) e) t) _;rw[FH];exact key _ _ (hf.env t)
 ·have bp:=hf.chunk i;simp only[bS,dK]at bp ⊢;generalize cH ([k].map fun k=>(k,.gone)) (aD h) i=ch at bp;cases bp with
  |none h1 h2=>exact .none h1 h2
  |gone=>exact .gone
  |mp nB sB ents b h1 h2 h3=>exact .mp nB sB ents b h1 h2 h3
  |it nB sB ents seen b bm h1 h2 h3 h4=>exact .it nB sB ents seen b bm h1 h2 h3 h4
  |box T cells b vs h1 h2 h3 h4=>
   refine .box T _ b vs h1 h2 (by rw[m6];exact keys _ _ h3) (fun d hd=>?_);rw[m6]at hd;obtain⟨y,hy,rfl⟩:=XN.1 hd;exact one y (h4 y hy)
  |row E' sz' g' rows' v xs h1 h2 h3 h4 h5 h6=>
   refine .row E' sz' g' _ v xs h1 (by rw[qS,XB];exact h2) (by rw[qS,<-List.map_flatten];exact keys _ _ h3) (fun r hr=>?_) (fun r hr d hd=>?_) h6
   ·rw[qS]at hr;obtain⟨y,hy,rfl⟩:=XN.1 hr;rw[XB];exact h4 y hy
   ·rw[qS]at hr;obtain⟨y,hy,rfl⟩:=XN.1 hr;obtain⟨z,hz,rfl⟩:=XN.1 hd;exact one z (h5 y hy z hz)
theorem bn {P:Program}{n m:Nat}{e e':cu}{h h':List Chunk}(he:e=e')(hh:h=h'):eS P n m e h e' h':=by
 subst he;subst hh;exact eS.refl _ _ _ _ _
theorem a3X {p:Prop}(h:p:=by
 clear hl;go_enter func157,ntmps157
 go_wp2_with fail
 go_ret
 exact⟨b9 hc.out.symm,(Below.refl _ _).alloc (Xz _) _⟩):p:=h
section
open Go.Proofs
def IE (n:Int):Int:=2 ^ (16 - n).toNat - 1
theorem DG (n:Int):IE n=((2 ^ (16 - n).toNat - 1:Nat):Int):=by
 have:=Nat.one_le_two_pow (n:=(16 - n).toNat);have h4:((2 ^ (16 - n).toNat:Nat):Int)=(2:Int) ^ (16 - n).toNat:=ah;unfold IE;omega
theorem yL (n:Int)(h0:0<=n):(2:Int) ^ (16 - n).toNat<=65536/\1<=(2:Int) ^ (16 - n).toNat:=by
 have h1:(16 - n).toNat<=16:=aa;have h2:=Nat.pow_le_pow_right (n:=2) aa h1;have h3:=Nat.one_le_two_pow (n:=(16 - n).toNat);have h4:((2 ^ (16 - n).toNat:Nat):Int)=(2:Int) ^ (16 - n).toNat:=ah;omega
theorem sn (n:Int)(h0:0<=n):0<=IE n/\IE n<=65535:=by
 have:=yL n h0;unfold IE;omega
theorem p6 (n:Int)(w:World)(h0:0<=n)(h1:n<=16):
 Calls prog 235 #[.int .i64 n] w fun e w'=>e= .returned (.int .i64 (IE n))/\w=w':=by
 have hp:=yL n h0;go_enter func235,ntmps235
 go_wp2
 go_ret
 exact⟨rfl,rfl⟩
def chk (a l:Int):Int:=if l < 0\/l>16\/a < 0\/a>65535 then 3 else if a % 2 ^ (16 - l).toNat=0 then 0 else 1
theorem TJ (a l:Int)(h0:0<=a)(h1:a<=65535)(h2:0<=l):bits .and .i64 a (IE l)=a % 2 ^ (16 - l).toNat:=by
 obtain⟨n,rfl⟩:=ZN h0;rw[DG,ES _ _ aa (by have:=sn l h2;rw[DG]at this;omega),Nat.and_two_pow_sub_one_eq_mod];simp
theorem Pz {a l:Int}(h:l < 0\/l>16\/a < 0\/a>65535):chk a l=3:=aj h
theorem IF {a l:Int}(h1:0<=l)(h2:l<=16)(h3:0<=a)(h4:a<=65535):chk a l=if a % 2 ^ (16 - l).toNat=0 then 0 else 1:=af aa
theorem qT (a l:Int)(w:World):
 Calls prog 157 #[.agg #[.int .i64 a,.int .i64 l]] w fun e w'=>e= .returned (.int .i64 (chk a l))/\cM w w':=by
 by_cases hl:l < 0\/l>16\/a < 0\/a>65535
 ·have hc:=Xj (Pz hl);by_cases h1:l < 0
  ·exact a3X
  by_cases h2:l>16
  ·exact a3X
  by_cases h3:a < 0
  ·exact a3X
  have h4:a>65535:=aa;clear hl;go_enter func157,ntmps157
  go_wp2_with fail
  go_ret
  exact⟨b9 hc.out.symm,(Below.refl _ _).alloc (Xz _) _⟩
 ·have hm:=sn l aa;obtain⟨g1,g2,g3,g4⟩:0<=l/\l<=16/\0<=a/\a<=65535:=aa;clear hl;have hc:=Xj (IF g1 g2 g3 g4);have ha:=Xj (TJ a l g3 g4 g1);go_enter func157,ntmps157
  go_wp2_with fail
  go_quiet ((go_at_call 235;exact Calls.quiet_of_same ((p6 _ _ aa aa).mono (fun _ _ h=>⟨h.1,h.2.symm⟩))))
  go_wp2_with fail
  ·go_ret
   rename_i h;rw[ha.out]at h;exact⟨b9 (by rw[hc.out,af (by simpa using h)]),below_drewN ((Below.refl _ _).alloc (Xz _) _) _⟩
  ·go_ret
   rename_i h;rw[ha.out]at h;exact⟨b9 (by rw[hc.out,aj (by simpa using h)]),below_drewN ((Below.refl _ _).alloc (Xz _) _) _⟩
structure Pfx where
 at_:Int
 len:Int
 deriving DecidableEq
def Pfx.R (cs:List Value)(p:Pfx):Prop:=cs=[.int .i64 p.at_,.int .i64 p.len]
def Pfx.chk (p:Pfx):Int:=Go.Proofs.YtojojebildofnaaGreatDoor.chk p.at_ p.len
theorem B6 {A:nC}{w:World}{ao:Option Addr}{cap:Nat}{l:List Pfx}(h:Sl A w 2 Pfx.R ao cap l):
 Calls prog 252 #[.slice ao l.length cap] w fun e w'=>e= .returned (.bool (l.all fun p=>p.chk==0))/\cM w w':=by
 have gU:=h.cap_le;have JS:=h.cap_max;go_enter func252,ntmps252
 go_wp2_with fail
 go_loopw [7] (fun i wr=>∃k:Nat,k<=l.length/\i= .int .i64 k/\(∀p∈l.take k,p.chk=0)/\Bel w.heap.size w wr) (fun i _=>l.length - (intOf i).toNat)
 case atStart=>exact⟨0,XD _,rfl,by simp,Bel.refl _⟩
 case round=>
  obtain⟨k,hk,rfl,bo,hb⟩:=hrel;by_cases hlt:k < l.length
  ·obtain⟨b,off,cs,hao,-,-,hR,hc⟩:=h.elem k hlt;generalize hp:l[k]=p at hR;unfold Pfx.R at hR;subst hR;have JV:=hc 0 ah;have Vi:=hc 1 ah;simp at JV Vi;have sW:=cW JV;have JV:=hb.cell sW JV;have Vi:=hb.cell sW Vi;replace hp:=Xj hp;replace bo:=Xj bo;clear hc;subst hao;go_wp2_with fail
   have hle:=hb.le;refine(qT _ _ _).mono ?_;rintro e w1 ⟨rfl,ci⟩;have VY:Bel w.heap.size w w1:=by exact dM
   replace VY:=Xj VY;clear hb;by_cases hz:Go.Proofs.YtojojebildofnaaGreatDoor.chk p.at_ p.len=0
   ·have rT:(Go.Proofs.YtojojebildofnaaGreatDoor.chk p.at_ p.len !=0)=false:=by simp[hz]
    replace hz:=Xj hz;go_wp2_with fail
    go_roundw
    case rel=>exact⟨k+1,by omega,by go_num,by
     intro q hq;rw[Zf hlt]at hq;rcases X0.1 hq with hq|hq
     ·exact bo.out q hq
     ·rw[X7.1 hq,hp.out];exact hz.out,VY.out⟩
    case measure=>simp[intOf];omega
   ·have rT:(Go.Proofs.YtojojebildofnaaGreatDoor.chk p.at_ p.len !=0)=true:=by simp[hz]
    go_wp2_with fail
    go_ret
    refine⟨?_,VY.out.bel⟩;have:(l.all fun p=>p.chk==0)=false:=by
     rw[YW];exact⟨l[k],Ye hlt,by rw[hp.out];simpa[Pfx.chk]using hz⟩
    rw[this];rfl
  ·obtain rfl:k=l.length:=aa;go_wp2_with fail
   go_ret
   refine⟨?_,hb.bel⟩;have:(l.all fun p=>p.chk==0)=true:=by
    rw[XA];intro p hp;rw[Xq]at bo;simpa using bo p hp
   rw[this];rfl
end
theorem ak {α:Type}{l:List α}{k:Nat}{x:α}(h:l[k]? =some x):l.take (k+1)=l.take k++[x]:=by
 rw[List.take_add_one,h];rfl
structure Lse where
 at_:Pfx
 kind:Int
 owner:Int
 till:Int
 deriving DecidableEq
structure Rul where
 min:Int
 max:Int
 usual:Int
 cool:Int
 deriving DecidableEq
structure Pol where
 id:Int
 up:Int
 root:Pfx
 rule:Rul
 leases:List Lse
 deriving DecidableEq
structure Bok where
 tick:Int
 pools:List Pol
 deriving DecidableEq
@[go_sem] def a0V (n:Int):D:= .v (.int .i64 n)
@[go_sem] def aS (p:Pfx):List D:=[.v (.int .i64 p.at_),.v (.int .i64 p.len)]
@[go_sem] def xj (r:Rul):List D:=[.v (.int .i64 r.min),.v (.int .i64 r.max),.v (.int .i64 r.usual),.v (.int .i64 r.cool)]
@[go_sem] def bt (l:Lse):List D:=[.v (.int .i64 l.at_.at_),.v (.int .i64 l.at_.len),.v (.int .i64 l.kind),.v (.int .i64 l.owner),.v (.int .i64 l.till)]
@[go_sem] def an (p:Pol):List D:=[.v (.int .i64 p.id),.v (.int .i64 p.up),.v (.int .i64 p.root.at_),.v (.int .i64 p.root.len),.v (.int .i64 p.rule.min),.v (.int .i64 p.rule.max),.v (.int .i64 p.rule.usual),.v (.int .i64 p.rule.cool),.sl 5 (p.leases.map bt)]
@[go_sem] def bq (b:Bok):List D:=[.v (.int .i64 b.tick),.sl 9 (b.pools.map an)]
def IG (root:Pfx)(us:List Pfx):List D:=[.v (.int .i64 root.at_),.v (.int .i64 root.len),.sl 2 (us.map aS)]
theorem FJ (p:Pfx):(aS p).length=2:=rfl
structure Fce where
 id:Int
 addrs:List Int
 deriving DecidableEq
structure Sbn where
 id:Int
 at_:Pfx
 faces:List Fce
 deriving DecidableEq
structure Rng where
 at_:Pfx
 pool:Int
 deriving DecidableEq
structure Vpc where
 id:Int
 ranges:List Rng
 subs:List Sbn
 deriving DecidableEq
@[go_sem] def cF (n:Int):List D:=[.v (.int .i64 n)]
@[go_sem] def cl (f:Fce):List D:=[.v (.int .i64 f.id),.sl 1 (f.addrs.map cF)]
@[go_sem] def aX (s:Sbn):List D:=[.v (.int .i64 s.id),.v (.int .i64 s.at_.at_),.v (.int .i64 s.at_.len),.sl 2 (s.faces.map cl)]
@[go_sem] def bE (r:Rng):List D:=[.v (.int .i64 r.at_.at_),.v (.int .i64 r.at_.len),.v (.int .i64 r.pool)]
@[go_sem] def ax (v:Vpc):List D:=[.v (.int .i64 v.id),.sl 3 (v.ranges.map bE),.sl 4 (v.subs.map aX)]
theorem yM (f:Fce):(cl f).length=2:=rfl
theorem nY (s:Sbn):(aX s).length=4:=rfl
theorem nZ (r:Rng):(bE r).length=3:=rfl
theorem jI (v:Vpc):(ax v).length=3:=rfl
structure Lnk where
 a:Int
 b:Int
 deriving DecidableEq
structure Net where
 vpcs:List Vpc
 links:List Lnk
 deriving DecidableEq
@[go_sem] def cP (l:Lnk):List D:=[.v (.int .i64 l.a),.v (.int .i64 l.b)]
@[go_sem] def cQ (n:Net):List D:=[.sl 3 (n.vpcs.map ax),.sl 2 (n.links.map cP)]
structure Ste where
 book:Bok
 net:Net
 deriving DecidableEq
structure Cmd where
 op:Int
 a:Int
 b:Int
 c:Int
 at_:Pfx
 rule:Rul
 deriving DecidableEq
structure Ans where
 err:Int
 at_:Pfx
 n:Int
 deriving DecidableEq
def Ans.zero:Ans:=⟨0,⟨0,0⟩,0⟩
def Ans.er (e:Int):Ans:=⟨e,⟨0,0⟩,0⟩
def Ste.zero:Ste:=⟨⟨0,[]⟩,⟨[],[]⟩⟩
@[go_sem] def eR (s:Ste):List D:=[.v (.int .i64 s.book.tick),.sl 9 (s.book.pools.map an),.sl 3 (s.net.vpcs.map ax),.sl 2 (s.net.links.map cP)]
@[go_sem] def jE (c:Cmd):List D:=[.v (.int .i64 c.op),.v (.int .i64 c.a),.v (.int .i64 c.b),.v (.int .i64 c.c),.v (.int .i64 c.at_.at_),.v (.int .i64 c.at_.len),.v (.int .i64 c.rule.min),.v (.int .i64 c.rule.max),.v (.int .i64 c.rule.usual),.v (.int .i64 c.rule.cool)]
@[go_sem] def p7 (a:Ans):List D:=[.v (.int .i64 a.err),.v (.int .i64 a.at_.at_),.v (.int .i64 a.at_.len),.v (.int .i64 a.n)]
def B7:D->Value
 | .v x=>x
 |_=>undef
def VB:D->Value
 | .v x=>x
 | .agg l=> .agg (l.map B7).toArray
 |_=>undef
def FK:D->Value
 | .v x=>x
 | .agg l=> .agg (l.map B7).toArray
 | .tup l=> .tuple (l.map VB).toArray
 |_=>undef
theorem p8 {vs:List Value}{ds:List D}{f:D->Value}(hl:ds.length=vs.length)(h:∀(j:Nat) (d:D) (x:Value),ds[j]? =some d->vs[j]? =some x->x=f d):vs=ds.map f:=by
 apply Yj;intro j;rw[Xy];cases hd:ds[j]? with
 |none=>
  have:ds.length<=j:=by simpa using hd
  rw[XR aa];rfl
 |some d=>
  have hlt:j < vs.length:=by rw[<-hl];exact(Xn.1 hd).1
  rw[Xk hlt,h j d _ hd (Xk hlt)];rfl
theorem Kj {M:Nat->Prop}{w:World}{d:D}{v:Value}(h:RepD M w d v)(hf:d.isV=true):v=B7 d:=by
 cases d<;>simp[D.isV]at hf;cases h;rfl
theorem FL {M:Nat->Prop}{w:World}{d:D}{v:Value}(h:RepD M w d v)(hf:d.flat=true):v=FK d:=by
 cases h with
 |v=>rfl
 |agg cells vs hl h1 bC=>
  simp only[D.flat,XA]at hf;rw[p8 (f:=B7) hl fun j d x hj hx=>Kj (bC j d x hj hx) (hf d (Xl hj))];rfl
 |tup ds vs hl bC=>
  simp only[D.flat,XA]at hf;rw[p8 (f:=VB) hl fun j d x hj hx=>?_]
  ·rfl
  ·have h0:=bC j d x hj hx;have h1:=hf d (Xl hj);cases h0 with
   |v=>rfl
   |agg cells us hl' h1' qE=>
    simp only[XA]at h1;rw[p8 (f:=B7) hl' fun j d x hj hx=>Kj (qE j d x hj hx) (h1 d (Xl hj))];rfl
   |_=>simp at h1
 |_=>simp[D.flat]at hf
def D.aggOK:D->Bool
 | .agg l=>l.all D.one
 | .tup l=>l.all fun d=>match d with| .agg l=>l.all D.one|_=>true
 |_=>true
theorem Kk {M:Nat->Prop}{w:World}(ds:List D)(hf:∀d∈ds,d.isV=true):∀(j:Nat) (d:D) (x:Value),ds[j]? =some d->(ds.map B7)[j]? =some x->RepD M w d x:=by
 intro j d x hj hx;rw[Xy,hj]at hx;cases hx;have:=hf d (Xl hj);cases d<;>simp[D.isV]at this;exact .v _
theorem DH {M:Nat->Prop}{w:World}{d:D}(hf:d.flat=true)(h1:d.aggOK=true):RepD M w d (FK d):=by
 cases d with
 |v x=>exact .v x
 |agg l=>
  simp only[D.flat,XA]at hf;simp only[D.aggOK,XA]at h1;exact .agg l _ ah h1 (Kk l hf)
 |tup l=>
  simp only[D.flat,XA]at hf;simp only[D.aggOK,XA]at h1;refine .tup l _ ah fun j d x hj hx=>?_;rw[Xy,hj]at hx;cases hx;have h2:=hf d (Xl hj);have h3:=h1 d (Xl hj);cases d with
  |v x=>exact .v x
  |agg l'=>
   simp only[XA]at h2 h3;exact .agg l' _ ah h3 (Kk l' h2)
  |_=>simp at h2
 |_=>simp[D.flat]at hf
theorem da {P:Program}{f:Nat}{ds:List D}{r:D}(hn:yp P f)(hf:∀d∈ds,d.flat=true)(hr:r.flat=true)(uE:r.aggOK=true)(h:∀w,Calls P f (ds.map FK).toArray w fun e w'=>e= .returned (FK r)/\cM w w'):ai P f ds r:=by
 refine⟨hn,fun M w vs _ _ dP=>?_⟩;rw[p8 (f:=FK) dP.1 fun j d x hj hx=>FL (dP.2 j d x hj hx) (hf d (Xl hj))];exact(h w).mono fun e w' ⟨he,hx⟩=>⟨FK r,he,DH hr uE,hx⟩
theorem dQ {M:Nat->Prop}{w:World}{d:D}{ds:List D}{vs:List Value}(h:eE M w (d::ds) vs):∃v us,vs=v::us/\RepD M w d v/\eE M w ds us:=by
 cases vs with
 |nil=>have:=h.1;simp at this
 |cons v us=>exact⟨v,us,rfl,h.2 0 d v rfl rfl,⟨by simpa using h.1,fun j d x hj hx=>h.2 (j+1) d x (by simpa using hj) (by simpa using hx)⟩⟩
theorem jr {M:Nat->Prop}{w:World}{vs:List Value}(h:eE M w [] vs):vs=[]:=by
 cases vs with
 |nil=>rfl
 |cons v us=>have:=h.1;simp at this
theorem PA {M:Nat->Prop}{w:World}{ds:List D}{v:Value}(h:RepD M w (.agg ds) v):∃vs:List Value,v= .agg vs.toArray/\eE M w ds vs:=by
 cases h with
 |agg _ vs hl h1 bC=>exact⟨vs,rfl,hl,bC⟩
theorem nD {M:Nat->Prop}{w:World}{x v:Value}(h:RepD M w (.v x) v):v=x:=by cases h;rfl
theorem TK {M:Nat->Prop}{w:World}{us:List Pfx}{v:Value}(h:RepD M w (.sl 2 (us.map aS)) v):∃ao cap,v= .slice ao us.length cap/\Sl (fun b=>¬M b) w 2 Pfx.R ao cap us:=by
 generalize hr:us.map aS=rows at h;have hl:us.length=rows.length:=by rw[<-hr];simp
 cases h with
 |nil _ ao cap hm=>
  have:us=[]:=X4 (by simpa using hl);subst this;exact⟨ao,cap,rfl,⟨XD _,hm,fun i hi=>absurd hi (YH _)⟩⟩
 |sl _ _ b off cap f hM hb hc hm hr' h1 ck bC=>
  refine⟨_,cap,by rw[hl],⟨by omega,hm,fun i hi=>⟨b,off,[.int .i64 us[i].at_,.int .i64 us[i].len],rfl,hM,rfl,rfl,fun j hj=>?_⟩⟩⟩;have bV:rows[i]? =some (aS us[i]):=by rw[<-hr,Xy,Xk hi];rfl
  have hcj:=ck i j aa hj;rw[hcj];match j,hj with
  |0,_=>rw[nD (bC i 0 _ _ bV rfl)];rfl
  |1,_=>rw[nD (bC i 1 _ _ bV rfl)];rfl
theorem DI {M:Nat->Prop}{w:World}{root:Pfx}{us:List Pfx}{v:Value}(h:RepD M w (.agg (IG root us)) v):∃uo cap,v= .agg #[.int .i64 root.at_,.int .i64 root.len,.slice uo us.length cap]/\Sl (fun b=>¬M b) w 2 Pfx.R uo cap us:=by
 obtain⟨vs,rfl,vX⟩:=PA h;obtain⟨a,vs,rfl,ha,vX⟩:=dQ vX;obtain⟨b,vs,rfl,hb,vX⟩:=dQ vX;obtain⟨c,vs,rfl,hc,vX⟩:=dQ vX;rw[jr vX,nD ha,nD hb];obtain⟨ao,cap,rfl,hs⟩:=TK hc;exact⟨ao,cap,rfl,hs⟩
theorem Mz {α:Type}{M:Nat->Prop}{A:nC}{w:World}{k:Nat}{R:List Value->α->Prop}{f:α->List Value}{l:List α}{ao:Option Addr}{cap:Nat}(h:Sl A w k R ao cap l)(hR:∀cs x,R cs x->cs=f x)(hk:∀x,(f x).length=k)(h0:0 < k)(h1:∀x,∀v∈f x,v.oneCell'=true)(hA:∀b,A b->¬M b):RepD M w (.sl k (l.map fun x=>(f x).map .v)) (.slice ao l.length cap):=by
 cases l with
 |nil=>exact .nil k ao cap h.cap_max
 |cons u us=>
  obtain⟨b,off,cs,rfl,hAb,hl,hRu,eV⟩:=h.elem 0 ah;have ck:∀i (hi:i < (u::us).length) j,j < k->w.cell? ⟨b,off+i*k+j,none⟩=some ((f ((u::us)[i])).getD j undef):=by
   intro i hi j hj;obtain⟨b',off',cs',e,-,hl',hR',Oe⟩:=h.elem i hi;cases e;have:=Oe j aa;have e2:=hR _ _ hR';subst e2;rw[this];simp only[XC,Xk (show j < (f (u::us)[i]).length by rw[hk];exact hj),Yp]
  have bB:((u::us).map fun x=>(f x).map D.v).length=(u::us).length:=ah;rw[<-bB];refine .sl k ((u::us).map fun x=>(f x).map D.v) b off cap (fun i j=>(f ((u::us).getD i u)).getD j undef) (hA b hAb) (cW (ck 0 ah 0 h0)) (by rw[bB];exact h.cap_le) h.cap_max (fun r hr=>?_) (fun r hr=>?_) (fun i j hi hj=>?_) (fun i j row d hi hj=>?_)
  ·obtain⟨x,-,rfl⟩:=XN.1 hr;rw[XB];exact hk x
  ·obtain⟨x,-,rfl⟩:=XN.1 hr;intro d hd;obtain⟨v,hv,rfl⟩:=XN.1 hd;exact h1 x v hv
  ·have hi':i < (u::us).length:=by simpa using hi
   rw[ck i hi' j hj];simp only[XC,Xk hi',Yp]
  ·rw[Xy]at hi;simp only[XJ]at hi;obtain⟨x,hx,rfl⟩:=hi;rw[Xy]at hj;simp only[XJ]at hj;obtain⟨v,hv,rfl⟩:=hj;simp only[XC,hx,hv,Yp];exact .v _
def xk (c:Cmd):WCmd:=⟨c.op,c.a,c.b,c.c,c.at_.at_,c.at_.len,c.rule.min,c.rule.max,c.rule.usual,c.rule.cool⟩
def Wo (c:WCmd):Cmd:=⟨c.op,c.a,c.b,c.c,⟨c.at_,c.len⟩,⟨c.min,c.max,c.usual,c.cool⟩⟩
theorem MA (c:Cmd):Wo (xk c)=c:=rfl
def uC (c:Cmd):Bool:=(xk c).ok
def yN (c:Cmd):ByteArray:=pP (xk c)
def PB (c:Cmd):ByteArray:=gH (yN c)
theorem B8 (c:Cmd):(yN c).size=37:=qK _
theorem B9 (c:Cmd):(PB c).size=42:=pQ _
theorem TL (c:Cmd):ai prog 23 [.agg (jE c)] (.tup [.v (.string (if uC c then yN c else⟨#[]⟩)),.v (.int .i64 (if uC c then 0 else 3))]):=by
 refine da (bY func23 aJ rfl) (by intro d hd;simp at hd;subst hd;rfl) rfl rfl fun w=>(LU (xk c) w).mono fun e w' h=>⟨h.1.trans ?_,h.2⟩;unfold uL uC yN;split<;>rfl
theorem DJ (c:Cmd):ai prog 26 [.agg (jE c)] (.v (.int .i64 (if uC c then 0 else 3))):=da (bY func26 aJ rfl) (by intro d hd;simp at hd;(repeat(first|(obtain rfl:=hd;rfl)|(rcases hd with rfl|hd; · rfl)))) rfl rfl (fun w=>x6 (xk c) w)
theorem IH (c:Cmd)(h:uC c=true):ai prog 21 [.agg (jE c)] (.v (.string (yN c))):=da (bY func21 aJ rfl) (by intro d hd;simp at hd;(repeat(first|(obtain rfl:=hd;rfl)|(rcases hd with rfl|hd; · rfl)))) rfl rfl (fun w=>ta (xk c) w (Di h).1 (Di h).2.1 (Di h).2.2)
theorem TM (s:ByteArray)(h:s.size<=255):ai prog 25 [.v (.string s)] (.tup [.v (.string (gH s)),.v (.int .i64 0)]):=da (bY func25 aJ rfl) (by intro d hd;simp at hd;(repeat(first|(obtain rfl:=hd;rfl)|(rcases hd with rfl|hd; · rfl)))) rfl rfl (fun w=>uK s w h)
theorem MB (s:ByteArray)(h:s.size<=255):ai prog 20 [.v (.string s)] (.v (.string (gH s))):=da (bY func20 aJ rfl) (by intro d hd;simp at hd;(repeat(first|(obtain rfl:=hd;rfl)|(rcases hd with rfl|hd; · rfl)))) rfl rfl (fun w=>wl s w h)
open Classical in
noncomputable def repN (s:ByteArray):Nat:=if h:s.size<=16384/\∃n,Replayed s n then h.2.choose else 0
noncomputable def repL (s:ByteArray):List Cmd:=if s.size<=16384 then (ma s (repN s)).map Wo else []
def lq (s:ByteArray):Int:=if s.size<=16384 then 0 else 2
theorem Kl {s:ByteArray}{n:Nat}(h:s.size<=16384)(k:Replayed s n):repN s=n:=by
 unfold repN;rw[dif_pos ⟨h,n,k⟩];exact(Exists.choose_spec (⟨n,k⟩:∃n,Replayed s n)).unique k
theorem m7 (s:ByteArray):(repL s).length=repN s:=by
 unfold repL;split
 ·simp[fq]
 ·rename_i h;unfold repN;rw[dif_neg (fun k=>h k.1)];rfl
theorem Km {s:ByteArray}{M:Nat->Prop}{w:World}{e:Ending}{w':World}(hM:∀b,M b->b < w.heap.size)(h:Ii s w e w'):∃v,e= .returned v/\RepD M w' (.tup [.sl 10 ((repL s).map jE),.v (.int .i64 (42*(repN s:Int))),.v (.int .i64 (lq s))]) v/\cM w w':=by
 rcases h with⟨h,n,ao,cap,hr,rfl,hs,hx⟩|⟨h,rfl,rfl⟩
 ·have hn:=Kl h hr;refine⟨_,rfl,.tup _ [_,_,_] rfl fun j d x hj hx=>?_,hx⟩;unfold repL lq at hj;match j with
  |0=>
   cases hx;rw[aj h,hn]at hj;cases hj;have:=Mz (M:=M) (f:=fun c:WCmd=>c.cs.toList) hs (fun _ _ h=>h) (fun _=>rfl) aa (fun x v hv=>by simp[WCmd.cs]at hv;rcases hv with rfl|rfl|rfl|rfl|rfl|rfl|rfl|rfl|rfl|rfl<;>rfl) (fun b hb hm=>by have:=hM b hm;omega);rw[fq]at this;rw[Z6];exact this
  |1=>cases hj;cases hx;rw[hn];exact .v _
  |2=>cases hj;cases hx;rw[aj h];exact .v _
  |j+3=>simp at hj
 ·have hn:repN s=0:=by unfold repN;rw[dif_neg aa]
  refine⟨_,rfl,.tup _ [_,_,_] rfl fun j d x hj hx=>?_,Below.refl _ _⟩;unfold repL lq at hj;match j with
  |0=>
   cases hx;rw[af aa]at hj;cases hj;exact .nil _ _ _ aa
  |1=>cases hj;cases hx;rw[hn];exact .v _
  |2=>cases hj;cases hx;rw[af aa];exact .v _
  |j+3=>simp at hj
theorem FM (s:ByteArray):ai prog 18 [.v (.string s)] (.tup [.sl 10 ((repL s).map jE),.v (.int .i64 (42*(repN s:Int))),.v (.int .i64 (lq s))]):=by
 refine⟨bY func18 aJ rfl,fun M w vs hM hG dP=>?_⟩;obtain⟨v,vs,rfl,h1,dP⟩:=dQ dP;rw[jr dP,nD h1];exact(Ij s w).mono fun e w' h=>Km hM h
theorem yO (s:ByteArray):ai prog 7 [.v (.string s)] (.tup [.sl 10 ((repL s).map jE),.v (.int .i64 (42*(repN s:Int))),.v (.int .i64 (lq s))]):=by
 refine⟨bY func7 aJ rfl,fun M w vs hM hG dP=>?_⟩;obtain⟨v,vs,rfl,h1,dP⟩:=dQ dP;rw[jr dP,nD h1];exact(Dk s w).mono fun e w' h=>Km hM h
theorem a5i {p:Prop}(h:p:=by
 simp only[bS,fF];by_cases h1:t'=t
 ·subst h1;rw[aj rfl,hv];exact r2
 ·rw[af h1];exact r1.env t'):p:=h
theorem a5E {p:Prop}(h:p:=by
 intro k k' b;have:=r1.apart k k' b;simp only[bS,oE]at this ⊢;exact this):p:=h
theorem a5V {p:Prop}(h:p:=by
 intro k b;have:=r1.new k b;simp only[bS,oE]at this ⊢;exact this):p:=h
theorem a5Y {p:Prop}(h:p:=by
 intro k;have:=r1.chunk k;simp only[bS,oE]at this ⊢;exact this):p:=h
theorem a6h {p:Prop}(h:p:=by
 intro b;have:=r1.mu b;simp only[bS,oE]at this ⊢;exact this):p:=h
theorem oR (h:List Chunk)(k:Nat)(ch:Chunk)(hk:k < h.length):aD (bD h k ch)=cH [(k,ch)] (aD h):=by
 funext i;rw[iB (V' hk),tn]
theorem PC {P:Program}{n m:Nat}{e:cu}{h:List Chunk}(t k g E sz l:Nat)(rows:List (List PV))(ht:fF e t= .osl k g sz 0 l)(hk:aD h k= .row E sz g rows)(bH:rows≠[])(hl:l<=rows.length){e':cu}{h':List Chunk}(he:e'=(t,.own k (g+1))::e)(hh:h'=bD h k (.row E sz (g+1) (rows.take l))):eS P n m e h e' h':=by
 intro X _ _ sY a w hr;subst he;subst hh;obtain⟨c,hc⟩:=hr;have hlt:k < h.length:=qQ (by rw[hk];simp);have het:=hc.env t;have bp:=hc.chunk k;have ht':(bS e h).env t= .osl k g sz 0 l:=ht;have hk':(bS e h).heap k= .row E sz g rows:=hk;rw[ht']at het;rw[hk']at bp;generalize hv:a.tmps.getD t undef=v at het;cases het with
 |osl _ _ _ _ _ b o N cap ep hn VU R5=>
  obtain⟨cur,xs,q1,q2,q3,q4,q5,q6,q7,q8,q9,q10,q11⟩:=eH bp ep bH;have C5:0 < rows.length:=Zl.2 bH;obtain rfl:o=0:=by rw[R5 aa];simp
  have bj:OwnV w E sz (.slice (some ⟨b,0,none⟩) l (cap - 0)) (rows.take l).length (xs.take (l*sz)):=by
   rw[Xp,Nat.min_eq_left hl];have a0m:l*sz<=rows.length*sz:=Yt sz hl;refine .row b l (cap - 0) cur _ aa q1 aa aa q11 (by rw[Xp];omega) ?_;apply Yj;intro j;by_cases hj:j < l*sz
   ·rw[XP hj,XP hj,X6,q4 j aa]
   ·rw[XR (by rw[Xp];omega),XR (by rw[Xp];omega)]
  obtain⟨c',r1,r2⟩:=hc.set_row (w':=w) hk' ep ⟨rfl,rfl,rfl,Xz _,fun _ _ _=>rfl⟩ bj (.inl (by rw[cR aa,cR aa])) (by rw[jG q5];exact⟨by rw[Xp,Xp,q2.1],fun j d x hj hx=>by
   have JW:j < l*sz:=by
    have:=(Xn.1 hj).1;rw[Xp]at this;omega
   rw[XP JW]at hj hx;exact q2.2 j d x hj hx⟩)
   (fun r hr=>q5 r (Yd hr)) (fun r hr=>q6 r (Yd hr))
  have oE:=oR h k (.row E sz (g+1) (rows.take l)) hlt;refine⟨c',r1.size,r1.defers,r1.ext,r1.inv,r1.fresh,?_,?_,?_,fun t'=>?_,?_,r1.lent⟩
  ·exact a6h
  ·exact a5V
  ·exact a5E
  ·exact a5i
  ·exact a5Y
theorem MC {P:Program}{n m:Nat}{e:cu}{h:List Chunk}(t k g E sz:Nat)(rows:List (List PV))(ht:fF e t= .own k g)(hk:aD h k= .row E sz g rows){e':cu}{h':List Chunk}(he:e'=(t,.own k (g+1))::e)(hh:h'=bD h k (.row E sz (g+1) rows)):eS P n m e h e' h':=by
 intro X _ _ sY a w hr;subst he;subst hh;obtain⟨c,hc⟩:=hr;have hlt:k < h.length:=qQ (by rw[hk];simp);have het:=hc.env t;have bp:=hc.chunk k;have ht':(bS e h).env t= .own k g:=ht;have hk':(bS e h).heap k= .row E sz g rows:=hk;rw[ht']at het;rw[hk']at bp;generalize hv:a.tmps.getD t undef=v at het;cases het with
 |own _ _ _ ep h1=>
  cases bp with
  |row _ _ _ _ u xs hu bj hr cL h1' hg=>
   rw[ep]at hu;cases hu;obtain⟨c',r1,r2⟩:=hc.set_row (w':=w) hk' ep ⟨rfl,rfl,rfl,Xz _,fun _ _ _=>rfl⟩ bj (.inl rfl) hr cL h1';have oE:=oR h k (.row E sz (g+1) rows) hlt;refine⟨c',r1.size,r1.defers,r1.ext,r1.inv,r1.fresh,?_,?_,?_,fun t'=>?_,?_,r1.lent⟩
   ·exact a6h
   ·exact a5V
   ·exact a5E
   ·exact a5i
   ·exact a5Y
theorem FN (p q:PV)(e:cu)(t:Nat):fF ((0,q)::[(0,p)]) t=fF [(0,q)] t:=by
 simp only[fF];by_cases h0:t=0
 ·rw[aj h0,aj h0]
 ·rw[af h0,af h0,af h0]
theorem gA {P:Program}{m:Nat}{h:List Chunk}(k g E sz:Nat)(rows:List (List PV))(hk:aD h k= .row E sz g rows){e':cu}{h':List Chunk}(hw:eS P 1 m [(0,.own k (g+1))] (bD h k (.row E sz (g+1) rows)) e' h'):eS P 1 m [(0,.own k g)] h e' h':=
 ((MC 0 k g E sz rows rfl hk rfl rfl).trans (ve fun t=> .inr (FN _ _ [] t).symm)).trans hw
theorem jJ {P:Program}{m:Nat}{h:List Chunk}(pA:m<=h.length)(E sz:Nat){e':cu}{h':List Chunk}(hw:eS P 1 m [(0,.own h.length 0)] (h++[.row E sz 0 []]) e' h'):eS P 1 m [(0,.d (.v (.slice none 0 0)))] h e' h':=
 ((cZ pA 0 E sz rfl).trans (ve fun t=> .inr (FN _ _ [] t).symm)).trans hw
theorem aL {P:Program}{n m:Nat}{e:cu}{h:List Chunk}(k:Nat)(hk:k < h.length):eS P n m e h e (bD h k .gone):=by
 intro X _ _ sY a w hr;obtain⟨c,hc⟩:=hr;have hf:=hc.freeze [k];have oE:=oR h k .gone hk;refine⟨_,hf.size,hf.defers,hf.ext,hf.inv,hf.fresh,?_,?_,?_,hf.env,?_,hf.lent⟩
 ·intro b;have:=hf.mu b;simp only[bS,oE,Xm,Xr]at this ⊢;exact this
 ·intro k b;have:=hf.new k b;simp only[bS,oE,Xm,Xr]at this ⊢;exact this
 ·intro k k' b;have:=hf.apart k k' b;simp only[bS,oE,Xm,Xr]at this ⊢;exact this
 ·intro k;have:=hf.chunk k;simp only[bS,oE,Xm,Xr]at this ⊢;exact this
theorem tH {P:Program}{f sz:Nat}{pl ql:List PV}{h0 h1:List Chunk}{r:PV}(h:∀(ao:Option Addr) (cap:Nat),MSpec P f (pl++ .d (.v (.slice ao 0 cap))::ql) h0 r h1):MSpec P f (pl++ .d (.sl sz [])::ql) h0 r h1:=by
 have h00:=h none 0;have sW:∀(d d':D) (n:Nat) (pl:List PV),aq n (pl++ .d d::ql)=aq n (pl++ .d d'::ql):=by
  intro d d' n pl;induction pl with
  |nil=>simp only[Yb,aq,au]
  |cons a pl ih=>simp only[X9,aq,ih]
 refine⟨h00.fn,h00.le,(sW _ _ _ pl).trans h00.ba,h00.bh,fun X hP hn hm' w c vs hr mL=>?_⟩;have bB:=mL.1;obtain⟨v,hv⟩:∃v,vs[pl.length]? =some v:=⟨_,Xk (by rw[<-bB];simp)⟩;have hd:=mL.2 pl.length (.d (.sl sz [])) v ah hv;have hd:=cn hd;have key:∀ao cap,v= .slice ao 0 cap->bI c w (pl++ .d (.v (.slice ao 0 cap))::ql) vs:=by
  rintro ao cap rfl;refine⟨by simpa using bB,fun j d x hj hx=>?_⟩;rcases Y7 j pl.length with hlt|rfl|hgt
  ·exact mL.2 j d x (by rw[X5 hlt]at hj ⊢;exact hj) hx
  ·rw[hv]at hx;cases hx;simp at hj;subst hj;exact .d _ _ (.v _)
  ·refine mL.2 j d x ?_ hx;rw[XH aa]at hj ⊢;obtain⟨i,hi⟩:∃i,j - pl.length=i+1:=⟨j - pl.length - 1,by omega⟩;rw[hi]at hj ⊢;exact hj
 cases hd with
 |nil _ ao cap hm=>exact(h ao cap).run X hP hn hm' w c vs hr (key _ _ rfl)
 |sl _ _ b off cap f hM hb hc hm=>
  exact(h _ cap).run X hP hn hm' w c vs hr (key _ _ rfl)
theorem tI {P:Program}{m:Nat}{h:List Chunk}(k g E sz l:Nat)(rows:List (List PV))(hk:aD h k= .row E sz g rows)(bH:rows≠[])(hl:l<=rows.length){e':cu}{h':List Chunk}(hw:eS P 1 m [(0,.own k (g+1))] (bD h k (.row E sz (g+1) (rows.take l))) e' h'):eS P 1 m [(0,.osl k g sz 0 l)] h e' h':=
 ((PC 0 k g E sz l rows rfl hk bH hl rfl rfl).trans (ve fun t=>by
  simp only[fF];by_cases h0:t=0
  ·rw[aj h0,aj h0];exact .inr rfl
  ·rw[af h0,af h0];exact .inl rfl)).trans hw
structure Tg.{u}{α:Sort u}(a:α):Type where
 mk::
def rL (p:PV)(A B:Prop)(_:Tg A)(_:Tg B):Prop:=match p with| .d (.v (.bool t))=>(t=true->A)/\(t=false->B)|_=>False
def gK (g:Option Bool)(A B:Prop)(_:Tg A)(_:Tg B):Prop:=match g with|some g=>(g=true->A)/\(g=false->B)|none=>False
def PD (l:List Oper)(_:Tg l)(sm:List (List Nat × List Nat)):Prop:=(pT ⟨l⟩ sm.reverse&&pV ⟨l⟩)=true
def TN (draw:Bool)(l:List Oper)(_:Tg l)(sm:List (List Nat × List Nat))(A:Prop)(_:Tg A):Prop:=match draw with|true=>PD l ⟨⟩ sm/\A|false=>A
def DK (ds:List (Option Nat))(e:cu)(g:Option (Nat × Bool)):Option Bool:=
 match g with
 |none=>some true
 |some (j,want)=>match ds[j]? with|some dj=>(DD dj e).map (·==some want)|none=>none
abbrev KT:=Exit->cu->List Chunk->Prop
def nK (K:KT):cu->List Chunk->Prop:=K .normal
def vf (C:cu->List Chunk->Prop)(K:KT):KT
 | .normal,e,h=>C e h
 |x,e,h=>K x e h
def wC (K:KT)(_:Tg K)(x:Exit)(e:cu)(h:List Chunk):Prop:=K x e h
def SM (P:Program)(r:SR)(dst:Option Nat)(e:cu)(h:List Chunk)(sm:List (List Nat × List Nat))(R:cu->List Chunk->List (List Nat × List Nat)->Prop)(_:Tg R):Prop:=DE P r dst e h sm R
section
variable (P:Program)(n m:Nat)(T:Nat->Option TI)(Q:Nat->Option Nat)
def rO (draw:Bool)(ops:List Oper)(K:KT):(l:List Oper)->Tg (ops,K,l)->List (Option Nat)->cu->List Chunk->List (List Nat × List Nat)->Prop
 |[],_,_,e,h,sm=>TN draw ops ⟨⟩ sm (wC K ⟨⟩ .normal e h) ⟨⟩
 |o::l,_,ds,e,h,sm=>gK (DK ds e o.guard) (SM P (SL T Q e h o) o.dst e h sm (fun e' h' sm'=>rO draw ops K l ⟨⟩ (ds++[o.dst]) e' h' sm') ⟨⟩) (rO draw ops K l ⟨⟩ (ds++[o.dst]) (ig e o.dst (.d (.v undef))) h (([],[])::sm)) ⟨⟩ ⟨⟩
def m8:Code->Bool
 | .seq a b=>m8 a&&m8 b
 | .block _ c=>m8 c
 | .cond _ a b=>m8 a&&m8 b
 | .region _ ops _=>ops.toList.all (Ps n)
 | .loop c=>m8 c
 | .rangeFunc _ _ a b=>m8 a&&m8 b
 |_=>true
def FO (c:Code)(K:KT)(_:Tg (c,K))(e:cu)(h:List Chunk):Prop:=m8 n c=true->wA P n m (.loop c) K e h
def a0W (c:Code)(K:KT)(_:Tg (c,K))(e:cu)(h:List Chunk):Prop:=wA P n m c K e h
def sC:(c:Code)->(K:KT)->Tg (c,K)->cu->List Chunk->Prop
 | .seq a b,K,_,e,h=>sC a (yK (sC b K ⟨⟩) K) ⟨⟩ e h
 | .block id c,K,_,e,h=>sC c (A9 id (nK K) K) ⟨⟩ e h
 | .skip,K,_,e,h=>wC K ⟨⟩ .normal e h
 | .exit i,K,_,e,h=>wC K ⟨⟩ (.exit i) e h
 | .ret,K,_,e,h=>wC K ⟨⟩ .ret e h
 | .label _,K,_,e,h=>wC K ⟨⟩ .normal e h
 | .cond c a b,K,_,e,h=>rL (dX e c) (sC a K ⟨⟩ e h) (sC b K ⟨⟩ e h) ⟨⟩ ⟨⟩
 | .region _ ⟨ops⟩ draw,K,_,e,h=>m<=h.length/\rO P T Q draw ops K ops ⟨⟩ [] e h []
 | .loop c,K,_,e,h=>FO P n m c K ⟨⟩ e h
 |c,K,_,e,h=>a0W P n m c K ⟨⟩ e h
end
theorem MD {ds:List (Option Nat)}{full:List (Option Nat)}(hp:∃x,full=ds++x){e:cu}{o:Oper}{g:Bool}(h:DK ds e o.guard=some g):vd full e o=some g:=by
 obtain⟨x,rfl⟩:=hp;unfold DK at h;unfold vd;cases hg:o.guard with
 |none=>rw[hg]at h;exact h
 |some jw=>
  obtain⟨j,want⟩:=jw;rw[hg]at h;simp only at h ⊢;cases hd:ds[j]? with
  |none=>rw[hd]at h;cases h
  |some dj=>
   rw[hd]at h;have hj:=(Xn.1 hd).1;rw[XC,X5 hj,hd];exact h
theorem oa {P:Program}{n:Nat}{T:Nat->Option TI}{Q:Nat->Option Nat}{draw:Bool}{ops:List Oper}{K:KT}:∀(l:List Oper) (pre:List Oper) (e:cu) (h:List Chunk) (sm:List (List Nat × List Nat)),ops=pre++l->l.all (Ps n)=true->
 rO P T Q draw ops K l ⟨⟩ (pre.map (·.dst)) e h sm->xg P n T Q draw ⟨ops⟩ (ops.map (·.dst)) l e h sm (K .normal)
 |[],pre,e,h,sm,_,_,hs=>by
  unfold rO TN at hs;unfold xg;cases draw with
  |true=>exact⟨fun _=>hs.1,hs.2⟩
  |false=>exact⟨(fun h=>(by cases h)),hs⟩
 |o::l,pre,e,h,sm,mP,hb,hs=>by
  simp only[List.all_cons,Xt]at hb;have R9:ops=(pre++[o])++l:=by rw[mP];simp
  have dP:pre.map (·.dst)++[o.dst]=(pre++[o]).map (·.dst):=ah;refine Mx hb.1 fun R hR=>?_;unfold rO gK at hs;unfold Wl;rw[dP]at hs;split at hs
  ·rename_i g hg;rw[MD (full:=ops.map (·.dst)) ⟨(o::l).map (·.dst),by rw[mP];simp⟩ hg];cases g with
   |true=>
    have hs:=hs.1 rfl;show DE _ _ _ _ _ _ _;unfold SM DE at hs;unfold DE;split at hs
    ·exact hs
    ·obtain⟨a,b,c⟩:=hs;exact⟨a,b,hR _ _ _ (oa l _ _ _ _ R9 hb.2 c)⟩
    ·rcases hs with⟨ds,r,a,b,c,d⟩|⟨ls,args,h0,r,h1,a,b,c,d,e1,f,g⟩|⟨ls,args,h0,r,a,b,c,d,e1,f,g⟩
     ·exact .inl ⟨ds,r,a,b,c,hR _ _ _ (oa l _ _ _ _ R9 hb.2 d)⟩
     ·exact .inr (.inl ⟨ls,args,h0,r,h1,a,b,c,d,e1,f,hR _ _ _ (oa l _ _ _ _ R9 hb.2 g)⟩)
     ·exact .inr (.inr ⟨ls,args,h0,r,a,b,c,d,e1,f,hR _ _ _ (oa l _ _ _ _ R9 hb.2 g)⟩)
   |false=>exact hR _ _ _ (oa l _ _ _ _ R9 hb.2 (hs.2 rfl))
  ·exact hs.elim
theorem jK {P:Program}{n m:Nat}{T:Nat->Option TI}{Q:Nat->Option Nat}(co:TabOK P T Q)(oF:P.follows .mixedOrders=true):∀(c:Code) (K:KT) (e:cu) (h:List Chunk),m8 n c=true->sC P n m T Q c K ⟨⟩ e h->wA P n m c K e h
 | .seq a b,K,e,h,hb,hs=>by
  simp only[m8,Xt]at hb;refine Kg fun C hC=>?_;intro X hX hn sY ac w hr;refine wp_mono (jK co oF a _ e h hb.1 hs X hX hn sY ac w hr) fun ex a' w' ⟨e',h',hk,hr'⟩=>⟨e',h',?_,hr'⟩;cases ex with
  |normal=>exact hC _ _ (jK co oF b _ _ _ hb.2 hk)
  |_=>exact hk
 | .block id c,K,e,h,hb,hs=>by
  refine Mw fun C hC=>?_;intro X hX hn sY ac w hr;refine wp_mono (jK co oF c _ e h hb hs X hX hn sY ac w hr) fun ex a' w' ⟨e',h',hk,hr'⟩=>⟨e',h',?_,hr'⟩;cases ex with
  |normal=>exact hC _ _ hk
  |exit i=>
   simp only[A9]at hk ⊢;split
   ·rename_i hi;rw[aj hi]at hk;exact hC _ _ hk
   ·rename_i hi;rw[af hi]at hk;exact hk
  |_=>exact hk
 | .skip,K,e,h,_,hs=>Px hs
 | .exit i,K,e,h,_,hs=>Py hs
 | .ret,K,e,h,_,hs=>TH hs
 | .label _,K,e,h,_,hs=>My hs
 | .cond c a b,K,e,h,hb,hs=>by
  simp only[m8,Xt]at hb;simp only[sC,rL]at hs;split at hs
  ·rename_i t ht;exact Pw ht (fun h0=>jK co oF a _ _ _ hb.1 (hs.1 h0)) (fun h0=>jK co oF b _ _ _ hb.2 (hs.2 h0))
  ·exact hs.elim
 | .region id ⟨ops⟩ draw,K,e,h,hb,hs=>by
  intro X hX hn sY a w hr;subst hX;subst hn;subst sY;exact DF co oF (K:=K .normal) hs.1 (oa ops [] _ _ _ rfl hb hs.2) hr fun e' h' a' w' hk hr'=>⟨e',h',hk,hr'⟩
 | .loop c,K,e,h,hb,hs=>hs hb
 | .rangeFunc _ _ _ _,K,e,h,_,hs=>hs
 | .scope _,K,e,h,_,hs=>hs
 | .goto _,K,e,h,_,hs=>hs
 | .refuse _,K,e,h,_,hs=>hs
section
variable {P:Program}{n m:Nat}{T:Nat->Option TI}{Q:Nat->Option Nat}
theorem bQ (co:TabOK P T Q)(oF:P.follows .mixedOrders=true){c:Code}{K:Exit->cu->List Chunk->Prop}{e:cu}{h:List Chunk}(I:Nat->cu->List Chunk->Prop)(mm:Nat)(e1:cu)(h1:List Chunk)(h0:I mm e1 h1)(hw:eS P n m e h e1 h1)
 (hr:∀k e h,I k e h->∀C:cu->List Chunk->Prop,(∀k' e1 h1 e h,k' < k->I k' e1 h1->eS P n m e h e1 h1->C e h)->sC P n m T Q c (vf C K) ⟨⟩ e h):FO P n m c K ⟨⟩ e h:=
 fun hb=>FF I mm e1 h1 h0 hw fun k e h hI C hC=>(show vf C K=yK C K from funext fun x=>by cases x<;>rfl) ▸ jK co oF c _ _ _ hb (hr k e h hI C hC)
theorem tJ (co:TabOK P T Q)(oF:P.follows .mixedOrders=true){c:Code}{K:Exit->cu->List Chunk->Prop}{e:cu}{h:List Chunk}(N:Nat)(I:Nat->Prop)(E:Nat->cu)(H:Nat->List Chunk)(h0:I 0)(hw:eS P n m e h (E 0) (H 0))
 (hr:∀k,k < N->I k->∀C:cu->List Chunk->Prop,(∀e h,I (k+1)->eS P n m e h (E (k+1)) (H (k+1))->C e h)->sC P n m T Q c (vf C K) ⟨⟩ (E k) (H k))
 (he:I N->∀C:cu->List Chunk->Prop,sC P n m T Q c (vf C K) ⟨⟩ (E N) (H N)):FO P n m c K ⟨⟩ e h:=by
 refine bQ co oF (fun j e h=>∃k,k<=N/\j=N - k/\I k/\e=E k/\h=H k) N (E 0) (H 0) ⟨0,XD _,rfl,h0,rfl,rfl⟩ hw ?_;rintro j e h ⟨k,hk,rfl,hI,rfl,rfl⟩ C hC;rcases XM k N with hlt|hge
 ·exact hr k hlt hI C fun e h hI' hw'=>hC _ _ _ e h aa ⟨k+1,hlt,rfl,hI',rfl,rfl⟩ hw'
 ·obtain rfl:k=N:=aa;exact he hI C
theorem bf (co:TabOK P T Q)(oF:P.follows .mixedOrders=true){c:Code}{K:Exit->cu->List Chunk->Prop}{e:cu}{h:List Chunk}{α:Type}(l:List α)(I:Nat->Prop)(E:Nat->cu)(H:Nat->List Chunk)(h0:I 0)(hw:eS P n m e h (E 0) (H 0))
 (hr:∀k x,l[k]? =some x->k < l.length->I k->∀C:cu->List Chunk->Prop,(∀e h,I (k+1)->eS P n m e h (E (k+1)) (H (k+1))->C e h)->sC P n m T Q c (vf C K) ⟨⟩ (E k) (H k))
 (he:I l.length->∀C:cu->List Chunk->Prop,sC P n m T Q c (vf C K) ⟨⟩ (E l.length) (H l.length)):FO P n m c K ⟨⟩ e h:=
 tJ co oF l.length I E H h0 hw (fun k hk hI=>hr k l[k] (Xk hk) hk hI) he
end
section
variable {P:Program}{n m:Nat}{T:Nat->Option TI}{Q:Nat->Option Nat}{A B:Prop}{s:Tg A}{t:Tg B}
theorem a2m:gK (some true) A B s t=A:=by simp[gK]
theorem a2n:gK (some false) A B s t=B:=by simp[gK]
theorem oS {b:Bool}(h1:b=true->A)(h2:b=false->B):gK (some b) A B s t:=⟨h1,h2⟩
theorem TO:rL (.d (.v (.bool true))) A B s t=A:=by simp[rL]
theorem TP:rL (.d (.v (.bool false))) A B s t=B:=by simp[rL]
theorem ey {b:Bool}(h1:b=true->A)(h2:b=false->B):rL (.d (.v (.bool b))) A B s t:=⟨h1,h2⟩
theorem a0X (b:Bool):(some b==some true)=b:=by cases b<;>rfl
theorem a0Y (b:Bool):(some b==some false)=!b:=by cases b<;>rfl
theorem a2o {b:Bool}:gK (some (!b)) A B s t=gK (some b) B A t s:=by
 cases b<;>simp[gK]
theorem TQ {b:Bool}:rL (.d (.v (.bool (!b)))) A B s t=rL (.d (.v (.bool b))) B A t s:=by
 cases b<;>simp[rL]
theorem Wp (a b:PV):tB (.d (.v (.bool true))) a b= .res a [] [] True:=by
 simp only[tB];split<;>rfl
theorem Wq (a b:PV):tB (.d (.v (.bool false))) a b= .res b [] [] True:=by
 simp only[tB];split<;>rfl
theorem Wr (t p q:Bool):tB (.d (.v (.bool t))) (.d (.v (.bool p))) (.d (.v (.bool q)))= .res (.d (.v (.bool (bif t then p else q)))) [] [] True:=rfl
theorem Ws (l:List Oper)(u:Tg l)(sm:List (List Nat × List Nat)):TN false l u sm A s=A:=rfl
theorem Wt (l:List Oper)(u:Tg l)(sm:List (List Nat × List Nat)):TN true l u sm A s=(PD l u sm/\A):=rfl
theorem jL {l:List Oper}{u:Tg l}{sm:List (List Nat × List Nat)}(h:(pT ⟨l⟩ sm.reverse&&pV ⟨l⟩)=true):PD l u sm:=h
theorem TR {p:PV}{eff:List (Nat × Chunk)}{touch:List Nat}{side:Prop}{dst:Option Nat}{e:cu}{h:List Chunk}{sm:List (List Nat × List Nat)}{R:cu->List Chunk->List (List Nat × List Nat)->Prop}{u:Tg R}:
 SM P (.res p eff touch side) dst e h sm R u=(side/\(eff.all fun kc=>decide (kc.1<=h.length))=true/\R (ig e dst p) (sg eff h) ((eff.map (·.1),touch)::sm)):=rfl
theorem a0Z {dst:Option Nat}{e:cu}{h:List Chunk}{sm:List (List Nat × List Nat)}{R:cu->List Chunk->List (List Nat × List Nat)->Prop}{u:Tg R}{g:Nat}{ps:List PV}{ds:List D}{r:D}{tl:List Nat}(hv:vwL (aD h) ps=some ds)(hp:ai P g ds r)(ht:Wk (aD h) ps=tl)(hf:tl=[]\/r.flat=true)(hR:R (ig e dst (.d r)) h (([],tl)::sm)):SM P (.call g ps) dst e h sm R u:=by
 subst ht;exact Wm hv hp hf hR
def PE (P:Program)(g:Nat)(ds:List D)(tl:List Nat)(dst:Option Nat)(e:cu)(h:List Chunk)(sm:List (List Nat × List Nat))(R:cu->List Chunk->List (List Nat × List Nat)->Prop)(_:Tg R):Prop:=
 ∃r,ai P g ds r/\(tl=[]\/r.flat=true)/\R (ig e dst (.d r)) h (([],tl)::sm)
def PF (P:Program)(g:Nat)(ds:Option (List D))(tl:List Nat)(dst:Option Nat)(e:cu)(h:List Chunk)(sm:List (List Nat × List Nat))(R:cu->List Chunk->List (List Nat × List Nat)->Prop)(u:Tg R):Prop:=
 match ds with
 |some ds=>PE P g ds tl dst e h sm R u
 |none=>False
theorem jM {dst:Option Nat}{e:cu}{h:List Chunk}{sm:List (List Nat × List Nat)}{R:cu->List Chunk->List (List Nat × List Nat)->Prop}{u:Tg R}{g:Nat}{ps:List PV}(hv:PF P g (vwL (aD h) ps) (Wk (aD h) ps) dst e h sm R u):SM P (.call g ps) dst e h sm R u:=by
 unfold PF at hv;split at hv
 ·rename_i ds hd;obtain⟨r,hp,hf,hR⟩:=hv;exact a0Z hd hp rfl hf hR
 ·exact hv.elim
theorem ez {g:Nat}{ds ds':List D}{tl:List Nat}{dst:Option Nat}{e:cu}{h:List Chunk}{sm:List (List Nat × List Nat)}{R:cu->List Chunk->List (List Nat × List Nat)->Prop}{u:Tg R}{r:D}(hp:ai P g ds' r)(hd:sj ds ds')(hf:tl=[]\/r.flat=true)(hR:R (ig e dst (.d r)) h (([],tl)::sm)):PE P g ds tl dst e h sm R u:=⟨r,hp.args hd,hf,hR⟩
theorem eA {g:Nat}{ds:List D}{tl:List Nat}{dst:Option Nat}{e:cu}{h:List Chunk}{sm:List (List Nat × List Nat)}{R:cu->List Chunk->List (List Nat × List Nat)->Prop}{u:Tg R}{r:D}(hp:ai P g ds r)(hf:tl=[]\/r.flat=true)(hR:R (ig e dst (.d r)) h (([],tl)::sm)):PE P g ds tl dst e h sm R u:=⟨r,hp,hf,hR⟩
theorem Ca:∀l:List D,sj l l
 |[]=>trivial
 |d::l=>⟨aP.refl d,Ca l⟩
theorem fU (ls:List Nat){dst:Option Nat}{e:cu}{h:List Chunk}{sm:List (List Nat × List Nat)}{R:cu->List Chunk->List (List Nat × List Nat)->Prop}{u:Tg R}{g:Nat}{ps args:List PV}{h0 h1:List Chunk}{r:PV}(hM:MSpec P g args h0 r h1)(mL:ps=jH (eW ls h.length) args)(hl:ls.length=h0.length)(mM:ls.Nodup)(hlt:∀k∈ls,k < h.length)(jX:bM (aD h) (eW ls h.length) 0 h0)
 (hR:R (ig e dst (ren (eW ls h.length) r)) (jp (eW ls h.length) 0 h1 h) ((sh ls h.length h1.length,sh ls h.length h1.length)::sm)):SM P (.call g ps) dst e h sm R u:=Wn ls hM mL hl mM hlt jX hR
theorem a1a (ls:List Nat){dst:Option Nat}{e:cu}{h:List Chunk}{sm:List (List Nat × List Nat)}{R:cu->List Chunk->List (List Nat × List Nat)->Prop}{u:Tg R}{g:Nat}{ps args:List PV}{h0:List Chunk}{r:PV}(hM:MSpec P g args h0 r h0)(mL:ps=jH (eW ls h.length) args)(hl:ls.length=h0.length)(mM:ls.Nodup)(hlt:∀k∈ls,k < h.length)(jX:bM (aD h) (eW ls h.length) 0 h0)
 (hR:R (ig e dst (ren (eW ls h.length) r)) h (([],sh ls h.length h0.length)::sm)):SM P (.call g ps) dst e h sm R u:= .inr (.inr ⟨ls,args,h0,r,hM,mL,hl,mM,hlt,jX,hR⟩)
variable {K K1:KT}{C:cu->List Chunk->Prop}{e:cu}{h:List Chunk}{b:Code}{i id:Nat}
theorem ME {u:Tg (yK (sC P n m T Q b K ⟨⟩) K1)}:wC (yK (sC P n m T Q b K ⟨⟩) K1) u .normal e h=sC P n m T Q b K ⟨⟩ e h:=rfl
theorem MF {u:Tg (yK C K1)}:wC (yK C K1) u (.exit i) e h=wC K1 ⟨⟩ (.exit i) e h:=rfl
theorem MG {u:Tg (yK C K1)}:wC (yK C K1) u .ret e h=wC K1 ⟨⟩ .ret e h:=rfl
theorem MH {u:Tg (vf C K1)}:wC (vf C K1) u .normal e h=C e h:=rfl
theorem MI {u:Tg (vf C K1)}:wC (vf C K1) u (.exit i) e h=wC K1 ⟨⟩ (.exit i) e h:=rfl
theorem MJ {u:Tg (vf C K1)}:wC (vf C K1) u .ret e h=wC K1 ⟨⟩ .ret e h:=rfl
theorem MK {u:Tg (A9 id (nK K) K1)}:wC (A9 id (nK K) K1) u .normal e h=wC K ⟨⟩ .normal e h:=rfl
theorem ML {u:Tg (A9 id (nK K) K1)}:wC (A9 id (nK K) K1) u .ret e h=wC K1 ⟨⟩ .ret e h:=rfl
theorem MM {u:Tg (A9 id (nK K) K1)}:wC (A9 id (nK K) K1) u (.exit i) e h=if i=id then wC K ⟨⟩ .normal e h else wC K1 ⟨⟩ (.exit i) e h:=rfl
def PG (T:Nat->Option TI)(rs:List ResultVar)(r:D)(e:cu)(h:List Chunk):Prop:=
 match rK T e h rs with
 |some ps=>match vw (aD h) (A6 ps)with
  |some d=>aP d r
  |none=>False
 |none=>False
theorem Kn {rs:List ResultVar}{r:D}{x:Exit}(hx:x= .normal\/x= .ret):tG T rs r x e h=PG T rs r e h:=by
 apply propext;unfold tG PG;constructor
 ·rintro⟨-,ps,d,h1,h2,h3⟩;rw[h1];simp only[h2];exact h3
 ·intro h1;refine⟨hx,?_⟩;split at h1
  ·rename_i ps hp;split at h1
   ·rename_i d hd;exact⟨ps,d,hp,hd,h1⟩
   ·exact h1.elim
  ·exact h1.elim
def PH (P:Program)(m:Nat)(T:Nat->Option TI)(rs:List ResultVar)(r:PV)(h1:List Chunk)(e:cu)(h:List Chunk):Prop:=
 match rK T e h rs with
 |some ps=>eS P 1 m [(0,A6 ps)] h [(0,r)] h1
 |none=>False
theorem Ko {rs:List ResultVar}{r:PV}{h1:List Chunk}{x:Exit}(hx:x= .normal\/x= .ret):A7 P m T rs r h1 x e h=PH P m T rs r h1 e h:=by
 apply propext;unfold A7 PH;constructor
 ·rintro⟨-,ps,h2,h3⟩;rw[h2];exact h3
 ·intro h2;refine⟨hx,?_⟩;split at h2
  ·rename_i ps hp;exact⟨ps,hp,h2⟩
  ·exact h2.elim
theorem FP {rs:List ResultVar}{r:D}{u:Tg (tG T rs r)}:wC (tG T rs r) u .normal e h=PG T rs r e h:=Kn (.inl rfl)
theorem FQ {rs:List ResultVar}{r:D}{u:Tg (tG T rs r)}:wC (tG T rs r) u .ret e h=PG T rs r e h:=Kn (.inr rfl)
theorem II {rs:List ResultVar}{r:PV}{h1:List Chunk}{u:Tg (A7 P m T rs r h1)}:wC (A7 P m T rs r h1) u .normal e h=PH P m T rs r h1 e h:=Ko (.inl rfl)
theorem IJ {rs:List ResultVar}{r:PV}{h1:List Chunk}{u:Tg (A7 P m T rs r h1)}:wC (A7 P m T rs r h1) u .ret e h=PH P m T rs r h1 e h:=Ko (.inr rfl)
end
def IK (fn:Func)(nt:Nat)(c:Code)(k:Nat):Bool:=!(fn.name== "runtime.NumGoroutine")&&m8 nt c&&decide (k<=nt)
theorem a2p {P:Program}{f:Nat}{fn:Func}{c:Code}{T:Nat->Option TI}{Q:Nat->Option Nat}{nt:Nat}{rs:Array ResultVar}(co:TabOK P T Q)(oF:P.follows .mixedOrders=true)(hf:P.funcs[f]? =some fn)(hb:fn.body=some c)(hn:fn.ntmps=nt)(hr:fn.results=rs){ds:List D}{r:D}(hc:IK fn nt c ds.length=true)
 (hp:sC P nt 0 T Q c (tG T rs.toList r) ⟨⟩ (si (ds.map .d) 0) []):ai P f ds r:=by
 subst hn;subst hr;simp only[IK,Xt,ZO,decide_eq_true_eq]at hc;exact FD co hf hb (bY hf hc.1.1 hb) hc.2 (jK co oF _ _ _ _ hc.1.2 hp)
theorem jN {P:Program}{f:Nat}{fn:Func}{c:Code}{T:Nat->Option TI}{Q:Nat->Option Nat}{nt:Nat}{rs:Array ResultVar}(co:TabOK P T Q)(oF:P.follows .mixedOrders=true)(hf:P.funcs[f]? =some fn)(hb:fn.body=some c)(hn:fn.ntmps=nt)(hr:fn.results=rs){args:List PV}{h0 h1:List Chunk}{r:PV}(hc:IK fn nt c args.length=true)
 (hle:h0.length<=h1.length) (Ew:aq h0.length args=true) (hbh:aH h0.length h0=true)
 (hp:sC P nt h0.length T Q c (A7 P h0.length T rs.toList r h1) ⟨⟩ (si args 0) h0):MSpec P f args h0 r h1:=by
 subst hn;subst hr;simp only[IK,Xt,ZO,decide_eq_true_eq]at hc;exact FE co hf hb (bY hf hc.1.1 hb) hc.2 hle Ew hbh (jK co oF _ _ _ _ hc.1.2 hp)
theorem PI {α:Type}(l:List α):aB l 0 []=l:=by simp[aB]
theorem PJ {α:Type}(a x:α)(l xs:List α):aB (a::l) 0 (x::xs)=x::aB l 0 xs:=by simp[aB]
theorem TS {α:Type}(a:α)(n:Nat)(l xs:List α):aB (a::l) (n+1) xs=a::aB l n xs:=by simp only[aB,ZS,X9,Nat.add_right_comm n 1,List.drop_succ_cons]
attribute [go_sem] si
attribute [go_sem] a2m a2n TO TP Ws Wt TR ME MF MG MH MI MJ MK ML MM FP FQ II IJ PG PH rK Ke A6 vw bx cI du xG eO oN Wp Wq Wr PF vwL Wk tc j3 cY AZ Dx oO O8 a0X a0Y a2o TQ DK sC rO
attribute [go_sem] a0P a0Q a0R a0S a0T a0U SL dX fF ig sg bD aD unS Pd Pf Pe Dp yw Ft yx yy p4 BX uV yz yA Pg Fv Fw Ph Pj yC yD J9 Ka yB p5 tC yE yF uW Ix Fx A8 Pv BM cX PV.one D.one Value.oneCell' yj rG rH PI PJ TS DD uO OZ dsR Fu Tq lJ jp eW ren jH kO mS sh iC aG aI IA yv O9 IntKind.bits
attribute [go_sem] cond_true cond_false Xm Xr Xx XX List.all_cons List.all_nil ZS Zb List.drop_succ_cons List.drop_zero List.take_nil List.drop_nil X9 Yb Yi XV List.reverse_cons List.reverse_nil List.getElem?_cons_zero Yw List.getElem?_nil _r Xy Yg Zq Yp Option.getD_none Y0 Option.bind_none XE XT decide_true decide_false YA Ys Bool.and_false Bool.false_and Yq H' Bool.not_false Bool.true_eq_false YB beq_self_eq_true ne_eq not_true_eq_false not_false_eq_true and_true true_and and_self or_self or_false false_or or_true true_or eq_self forall_const false_implies implies_true Int.toNat_natCast Int.natCast_nonneg Nat.lt_irrefl Xz XB Xv XW.injEq Prod.mk.injEq YH XD ZX Nat.lt_add_one List.getD_cons_zero List.getD_cons_succ List.getD_nil _f List.range_zero YX XQ XZ
theorem a5Q {p:Prop}(h:p:=by
 induction a with
 |nil=>rfl
 |cons x a ih=>simp only[X9,Xx,bD,ih]):p:=h
section
mutual
theorem PK:∀p:PV,ren (fun j=>j) p=p
 | .d x=>rfl
 | .any=>rfl
 | .ptr k off=>rfl
 | .own k g=>rfl
 | .rp k g sz i j=>rfl
 | .osl k g sz a n=>rfl
 | .clo g caps=>by simp only[ren,oT caps]
 | .agg l=>by simp only[ren,oT l]
 | .tup l=>by simp only[ren,oT l]
 | .mref k=>rfl
theorem oT:∀l:List PV,jH (fun j=>j) l=l
 |[]=>rfl
 |p::l=>by simp only[jH,PK p,oT l]
end
theorem Kp:∀l:List (List PV),kO (fun j=>j) l=l
 |[]=>rfl
 |p::l=>by simp only[kO,oT p,Kp l]
theorem DL (c:Chunk):mS (fun j=>j) c=c:=by cases c<;>simp only[mS,oT,Kp]
theorem MN (n:Nat):eW (X8 n) n=fun j=>j:=by
 funext j;rcases XM j n with h|h
 ·have:=oP (ls:=X8 n) (nk:=n) (j:=j) (by simpa using h);rw[z' h]at this;exact(XW.inj this).symm
 ·have:=lI (X8 n) n (j - n);rw[List.length_range]at this;rw[show n+(j - n)=j by omega]at this;exact this
theorem oc (a:List Chunk)(c d:Chunk)(b:List Chunk):bD (a++c::b) a.length d=a++d::b:=a5Q
@[go_sem] theorem lX (a:List Chunk)(d:Chunk):bD a a.length d=a++[d]:=a5Q
theorem yP:∀(l pre rest:List Chunk),rest.length<=l.length->jp (fun j=>j) pre.length l (pre++rest)=pre++l
 |[],pre,rest,h=>by
  have:rest=[]:=X4 (by simpa using h);subst this;simp[jp]
 |c::l,pre,[],h=>by
  simp only[jp,Yi,DL,lX];have:=yP l (pre++[c]) [] ah;simpa using this
 |c::l,pre,r::rest,h=>by
  simp only[jp,DL,oc];have:=yP l (pre++[c]) rest (by simpa using h);simpa using this
theorem Cb:∀(l pre:List Chunk),bM (aD (pre++l)) (fun j=>j) pre.length l
 |[],_=>trivial
 |c::l,pre=>by
  refine⟨?_,?_⟩
  ·rw[DL];induction pre with
   |nil=>rfl
   |cons a pre ih=>exact ih
  ·have:=Cb l (pre++[c]);simpa using this
section
variable {P:Program}{n m:Nat}{T:Nat->Option TI}{Q:Nat->Option Nat}
theorem PL {dst:Option Nat}{e:cu}{h:List Chunk}{sm:List (List Nat × List Nat)}{R:cu->List Chunk->List (List Nat × List Nat)->Prop}{u:Tg R}{g:Nat}{ps:List PV}{h1:List Chunk}{r:PV}(hM:MSpec P g ps h r h1)
 (hR:R (ig e dst r) h1 ((X8 h1.length,X8 h1.length)::sm)):SM P (.call g ps) dst e h sm R u:=by
 have hid:=MN h.length;have hle:=hM.le;refine fU (X8 h.length) hM (by rw[hid,oT]) ah List.nodup_range (fun k hk=>by simpa using hk) (by rw[hid];exact Cb h []) ?_;have hh:jp (fun j=>j) 0 h1 h=h1:=yP h1 [] h hle;have hm:sh (X8 h.length) h.length h1.length=X8 h1.length:=by
  unfold sh;rw[hid];simp
 rw[hid,PK,hh,hm];exact hR
end
theorem IL (l:List (List D))(n:Nat):(ab l).take n=ab (l.take n):=by simp[ab]
theorem MO {α:Type}(l:List α)(i j k:Nat)(z:α)(hi:i < l.length)(hj:j=i+1)(hk:k=i+(l.length - j)):(aB (aB l i ((l.drop j).take (l.length - j))) k [z]).take k=l.eraseIdx i:=by
 subst hj;subst hk;have h1:(l.drop (i+1)).take (l.length - (i+1))=l.drop (i+1):=XG (by rw[XS];omega);rw[h1,YI];have h2:(aB l i (l.drop (i+1))).take (i+(l.length - (i+1)))=l.take i++l.drop (i+1):=by
  unfold aB;rw[Ym aK,XG aK]
 rw[<-h2];have h3:i+(l.length - (i+1))<=(aB l i (l.drop (i+1))).length:=by rw[bw (by rw[XS];omega)];omega
 generalize aB l i (l.drop (i+1))=l' at h3 ⊢;unfold aB;rw[XV,Ym (by rw[Xp];omega),List.take_take,Zr]
theorem gB {α β:Type}(f:α->β)(l:List α)(i:Nat):(l.eraseIdx i).map f=(l.map f).eraseIdx i:=by
 rw[YI,YI,Xo,ZI,List.map_drop]
theorem m9 {α:Type}(l:List α)(i j n:Nat)(hi:i < l.length)(hj:j=i+1)(hn:n=l.length):(aB l i ((l.drop j).take (n - j))).length=l.length:=by
 rw[bw];rw[Xp,XS];omega
theorem p9 {P:Program}{E sz g i j n:Nat}{L:List (List D)}{z:List PV}(hi:i < L.length)(hj:j=i+1)(hn:n=L.length):
 eS P 1 1 [(0,.osl 0 g sz 0 (i+(n - j)))] [.row E sz g (aB (aB (ab L) i (((ab L).drop j).take (n - j))) (i+(n - j)) (XY 1 z))] [(0,.own 0 (g+1))] [.row E sz (g+1) (ab (L.eraseIdx i))]:=by
 have hl:(ab L).length=L.length:=aG L;have h1:=m9 (ab L) i j n aa hj aa;have h2:(aB (aB (ab L) i (((ab L).drop j).take (n - j))) (i+(n - j)) (XY 1 z)).length=L.length:=by rw[bw aK];omega
 refine tI 0 g E sz _ _ rfl (fun h=>by rw[h]at h2;simp at h2;omega) aa (bn rfl ?_);have:=MO (ab L) i j (i+(n - j)) z aa hj aa;simp only[bD,List.replicate_one];rw[hn]at this ⊢;rw[hl]at this;rw[this];unfold ab;rw[gB]
def cA {α:Type}(p:α->Bool)(l:List α)(j:Nat):List α:=(l.take j).filter fun x=>!p x
def iT {α:Type}(p:α->Bool)(l:List α)(j:Nat):List α:=cA p l j++l.drop (cA p l j).length
theorem xI {α:Type}(p:α->Bool)(l:List α)(j:Nat):(cA p l j).length<=j/\(cA p l j).length<=l.length:=by
 have h1:=Ze (fun x=>!p x) (l.take j);rw[Xp]at h1;unfold cA;omega
theorem Kq {α:Type}(p:α->Bool)(l:List α)(j:Nat):(iT p l j).length=l.length:=by
 have:=xI p l j;unfold iT;rw[Xv,XS];omega
theorem Kr {α:Type}(p:α->Bool)(l:List α)(j i:Nat)(h:(cA p l j).length<=i):(iT p l j)[i]? =l[i]? :=by
 unfold iT;rw[XH h,Yl];congr 1;omega
theorem vg {α:Type}{p:α->Bool}{l:List α}{j:Nat}{x:α}(hx:l[j]? =some x):cA p l (j+1)=cA p l j++if p x then []else [x]:=by
 unfold cA;rw[List.take_add_one,hx,YY];cases h:p x<;>simp[h]
theorem VC {α:Type}{p:α->Bool}{l:List α}{j:Nat}{x:α}(hx:l[j]? =some x)(hp:p x=true):cA p l (j+1)=cA p l j/\iT p l (j+1)=iT p l j:=by
 have h1:cA p l (j+1)=cA p l j:=by rw[vg hx,hp];simp
 exact⟨h1,by unfold iT;rw[h1]⟩
theorem VD {α:Type}{p:α->Bool}{l:List α}{j:Nat}{x:α}(hx:l[j]? =some x)(hp:p x=false):(cA p l (j+1)).length=(cA p l j).length+1/\iT p l (j+1)=(iT p l j).set (cA p l j).length x:=by
 have h1:cA p l (j+1)=cA p l j++[x]:=by rw[vg hx,hp];simp
 have hj:=(Xn.1 hx).1;have hk:=xI p l j;refine⟨by rw[h1];simp,?_⟩;unfold iT;rw[h1];obtain⟨y,hy⟩:∃y,l[(cA p l j).length]? =some y:=⟨_,Xk aa⟩;have hd:l.drop (cA p l j).length=y::l.drop ((cA p l j).length+1):=by
  obtain⟨hlt,rfl⟩:=Xn.1 hy;exact YR hlt
 rw[hd,Yu _ _ (Xz _),YF,XQ];simp
theorem Cc {α:Type}{p:α->Bool}{l:List α}{i:Nat}(h:l.findIdx? p=some i):i < l.length/\(cA p l (i+1)).length=i/\iT p l (i+1)=l:=by
 obtain⟨hi,hp,cg⟩:=XI.1 h;have h1:cA p l (i+1)=l.take i:=by
  rw[vg (Xk hi),hp];simp only[if_true,Yi];unfold cA;refine Y5.2 fun x hx=>?_;obtain⟨q,hq,rfl⟩:=X3.1 hx;rw[Xp]at hq;have:=cg q aa;simp only[ZP];simpa using this
 have h2:(cA p l (i+1)).length=i:=by rw[h1,Xp];omega
 refine⟨hi,h2,?_⟩;unfold iT;rw[h2,h1,YK]
theorem TU {α:Type}(p:α->Bool)(l:List α):cA p l l.length=l.filter fun x=>!p x:=by
 unfold cA;(try rw[Xq])
theorem bU {α:Type}(enc:α->List D)(l:List α)(i:Nat)(x:α):(ab (l.map enc)).set i ((enc x).map .d)=ab ((l.set i x).map enc):=by
 simp only[ab,Z7]
structure HpOK (h:List Chunk)(k:Nat):Prop where
 a:∀c,aD (bD h k c) k=c
 b:∀c,(bD h k c).length=h.length
 c:∀c b,aD (bD h k c++[b]) k=c
 d:∀c b,aD (bD h k c++[b]) h.length=b
 e:∀c b,bD (bD h k c) h.length b=bD h k c++[b]
 f:∀c b c',bD (bD h k c++[b]) k c'=bD h k c'++[b]
 g:∀c b b',bD (bD h k c++[b]) h.length b'=bD h k c++[b']
 i:∀c c',bD (bD h k c) k c'=bD h k c'
theorem vh:∀(h:List Chunk) (k:Nat) (c c':Chunk),k < h.length->bD (bD h k c) k c'=bD h k c'
 |a::l,0,c,c',_=>rfl
 |a::l,k+1,c,c',h=>by simp only[bD,vh l k c c' (by simpa using h)]
theorem Cd:∀(h b:List Chunk) (k:Nat) (c:Chunk),k < h.length->bD (h++b) k c=bD h k c++b
 |a::l,b,0,c,_=>rfl
 |a::l,b,k+1,c,h=>by simp only[X9,bD,Cd l b k c (by simpa using h)]
theorem Wu {h:List Chunk}{k:Nat}(hk:k < h.length):HpOK h k:=by
 have hb:∀c,(bD h k c).length=h.length:=fun c=>tF hk;have ha:∀c,aD (bD h k c) k=c:=fun c=>by rw[iB (V' hk),aj rfl]
 refine⟨ha,hb,fun c b=>by rw[qR _ _ _ (by rw[hb];exact hk),ha],fun c b=>by rw[kP,hb,aj rfl],fun c b=>?_,fun c b c'=>?_,fun c b b'=>?_,fun c c'=>vh h k c c' hk⟩
 ·have:=lX (bD h k c) b;rwa [hb]at this
 ·rw[Cd _ _ _ _ (by rw[hb];exact hk),vh h k c c' hk]
 ·have:=oc (bD h k c) b b' [];rwa [hb]at this
theorem vj:∀(h:List Chunk) (k:Nat) (c:Chunk),aD h k=c->k < h.length->bD h k c=h
 |a::l,0,c,e,_=>by subst e;rfl
 |a::l,k+1,c,e,h=>by simp only[bD,vj l k c e (by simpa using h)]
theorem ik (n:Nat):∀(h:List Chunk) (k:Nat) (c:Chunk),aH n h=true->aR n c=true->k < h.length->aH n (bD h k c)=true
 |a::l,0,c,h1,h2,_=>by simp only[aH,Xt]at h1;simp only[bD,aH,h1.2,h2,Yq]
 |a::l,k+1,c,h1,h2,h3=>by
  simp only[aH,Xt]at h1;simp only[bD,aH,h1.1,ik n l k c h1.2 h2 (by simpa using h3),Yq]
theorem FR {α:Type}(l xs:List α)(n:Nat)(h:n<=l.length):(aB l n xs).take n=l.take n:=by
 unfold aB;rw[XV,Ym (by rw[Xp];omega),List.take_take,Zr]
theorem Ce {α:Type}(p:α->Bool)(l:List α):(iT p l l.length).take (cA p l l.length).length=l.filter fun x=>!p x:=by
 unfold iT;rw[Ym (Xz _),Xq,TU]
theorem Cf {P:Program}{E sz g k K n:Nat}{h:List Chunk}{L:List (List D)}{z:List PV}(hk:k < h.length)(hK:K<=L.length)(h0:L≠[])(hn:n=L.length):
 eS P 1 h.length [(0,.osl k g sz 0 (K - 0))] (bD h k (.row E sz g (aB (ab L) K (XY (n - K) z)))) [(0,.own k (g+1))] (bD h k (.row E sz (g+1) (ab (L.take K)))):=by
 obtain⟨ga,gb,gc,gd,ge,gf,gg,gi⟩:=Wu hk;have hl:(ab L).length=L.length:=aG L;have hs:(aB (ab L) K (XY (n - K) z)).length=L.length:=by rw[bw aK];exact hl
 have hp:0 < L.length:=Zl.2 h0;refine tI k g E sz _ _ (ga _) (fun e=>by rw[e]at hs;simp at hs;omega) aa (bn rfl ?_);rw[gi,Zj,FR _ _ _ aa,IL]
theorem aT (k g:Nat)(d:D):∀(l m:List (List PV)),gI k g d (l++m)=gI k g d l++gI k g d m
 |[],m=>rfl
 |r::l,m=>by simp only[X9,gI,aT k g d l m]
def ple (p q:PV):Prop:=p=q\/∃d d',p= .d d/\q= .d d'/\aP d d'
def xm:List PV->List PV->Prop
 |[],[]=>True
 |p::l,q::m=>ple p q/\xm l m
 |_,_=>False
theorem tK {c:Cx}{w:World}:∀{l m:List PV}{vs:List Value},xm l m->bI c w l vs->bI c w m vs
 |[],[],vs,_,h=>h
 |[],_::_,vs,h,_=>h.elim
 |_::_,[],vs,h,_=>h.elim
 |p::l,q::m,[],_,h=>by have:=h.1;simp at this
 |p::l,q::m,v::vs,⟨h1,h2⟩,h=>by
  have h3:=tK (vs:=vs) h2 ⟨by simpa using h.1,fun j d x hj hx=>h.2 (j+1) d x (by simpa using hj) (by simpa using hx)⟩;refine⟨by simpa using h3.1,fun j d x hj hx=>?_⟩;cases j with
  |zero=>
   simp at hj hx;subst hj;subst hx;have h0:=h.2 0 p v rfl rfl;rcases h1 with rfl|⟨d,d',rfl,rfl,hle⟩
   ·exact h0
   ·exact .d _ _ (hle _ _ _ (cn h0))
  |succ j=>exact h3.2 j d x (by simpa using hj) (by simpa using hx)
theorem MSpec.lep {P:Program}{f:Nat}{args args':List PV}{h0 h1:List Chunk}{r:PV}(h:MSpec P f args h0 r h1)(hp:xm args' args)(hb:aq h0.length args'=true):MSpec P f args' h0 r h1:=
 ⟨h.fn,h.le,hb,h.bh,fun X hP hn hm w c vs hr mL=>h.run X hP hn hm w c vs hr (tK hp mL)⟩
theorem DM {P:Program}{f:Nat}{fn:Func}{c:Code}{T:Nat->Option TI}{Q:Nat->Option Nat}{nt:Nat}{rs:Array ResultVar}(co:TabOK P T Q)(oF:P.follows .mixedOrders=true)(hf:P.funcs[f]? =some fn)(hb:fn.body=some c)(hn:fn.ntmps=nt)(hr:fn.results=rs){args:List PV}{h0 h1:List Chunk}{r:PV}(hc:IK fn nt c args.length=true)
 (hle:h0.length<=h1.length) (Ew:aq h0.length args=true) (hbh:aH h0.length h0=true)
 (hp:sC P nt h0.length T Q c (A7 P h0.length T rs.toList r h1) ⟨⟩ (si args 0) h0):MSpec P f args h0 r h1:=jN co oF hf hb hn hr hc hle Ew hbh hp
end
structure Hd (Q:Prop):Prop where
 out:Q
structure Or1 (Q:Prop):Prop where
 mk::
structure Ln (ls:List Nat)(P:Program)(g:Nat)(args:List PV)(h0:List Chunk)(r:PV)(h1:List Chunk):Prop where
 out:MSpec P g args h0 r h1
structure Lr (ls:List Nat)(P:Program)(g:Nat)(args:List PV)(h0:List Chunk)(r:PV):Prop where
 out:MSpec P g args h0 r h0
theorem DN {P:Program}{ls:List Nat}{dst:Option Nat}{e:cu}{h:List Chunk}{sm:List (List Nat × List Nat)}{R:cu->List Chunk->List (List Nat × List Nat)->Prop}{u:Tg R}{g:Nat}{ps args:List PV}{h0:List Chunk}{r:PV}(hL:Lr ls P g args h0 r)(mL:ps=jH (eW ls h.length) args)(hl:ls.length=h0.length)(mM:ls.Nodup)(hlt:∀k∈ls,k < h.length)(jX:bM (aD h) (eW ls h.length) 0 h0)
 (hR:R (ig e dst (ren (eW ls h.length) r)) h (([],sh ls h.length h0.length)::sm)):SM P (.call g ps) dst e h sm R u:=a1a ls hL.out mL hl mM hlt jX hR
theorem Cg {P:Program}{ls:List Nat}{dst:Option Nat}{e:cu}{h:List Chunk}{sm:List (List Nat × List Nat)}{R:cu->List Chunk->List (List Nat × List Nat)->Prop}{u:Tg R}{g:Nat}{ps args:List PV}{h0 h1:List Chunk}{r:PV}(hL:Ln ls P g args h0 r h1)(mL:ps=jH (eW ls h.length) args)(hl:ls.length=h0.length)(mM:ls.Nodup)(hlt:∀k∈ls,k < h.length)(jX:bM (aD h) (eW ls h.length) 0 h0)
 (hR:R (ig e dst (ren (eW ls h.length) r)) (jp (eW ls h.length) 0 h1 h) ((sh ls h.length h1.length,sh ls h.length h1.length)::sm)):SM P (.call g ps) dst e h sm R u:=fU ls hL.out mL hl mM hlt jX hR
theorem bl {A:Prop}(h:A:=by first|rfl|simp only[aH,eJ,aR,aq,cE,au,bu,aC,Xx,XX,XL,Z8,decide_true,Yq,YA]):A:=h
theorem se {e e':cu}(h:Mf e e':=by repeat' (first|exact trivial|(refine⟨rfl,?_⟩))):Mf e e':=h
theorem wi (k:Nat)(h:k < 9223372036854775807):IntKind.i64.wrap ((k:Int)+1)=((k+1:Nat):Int):=by rw[IntKind.wrap_i64];omega
theorem dg {A:Prop}(h:A:=by repeat(first|exact aP.refl _|exact aP.nil _|(refine aP.tup ?_)|(refine aP.agg ?_ rfl)|exact trivial|(refine And.intro ?_ ?_))):A:=h
theorem dz {a b:D}(h:aP a b:=by repeat(first|exact aP.refl _|exact aP.nil _|(refine aP.tup ?_)|(refine aP.agg ?_ rfl)|exact trivial|(refine And.intro ?_ ?_))):aP a b:=h
theorem wf {P:Program}{n m:Nat}{e e':cu}{h h' x:List Chunk}(hm:m<=h'.length:=by simp)(hh:h=h'++x:=by rfl)(he:Mf e e':=by repeat' (first|exact trivial|(refine⟨rfl,?_⟩)))
 (hb:eJ h'.length e'=true:=by first|rfl|simp only[aH,eJ,aR,aq,cE,au,bu,aC,Xx,XX,XL,Z8,decide_true,Yq,YA]) (hbh:aH h'.length h'=true:=by first|rfl|simp only[aH,eJ,aR,aq,cE,au,bu,aC,Xx,XX,XL,Z8,decide_true,Yq,YA]):eS P n m e h e' h':=eF x hm hh he hb hbh
theorem bc {P:Prop}(h:P:=by
 first|((repeat' (first|(with_reducible refine And.intro ?_ ?_)|(with_reducible refine oS (fun iP=>?_) (fun iP=>?_))|(with_reducible refine ey (fun iP=>?_) (fun iP=>?_))|(with_reducible refine jL aJ)|simp -dsimp only[go_sem,seval, *,undef,Xq,Zj,bne_self_eq_false,beq_self_eq_true,YM,Zg,ZJ]|((with_reducible refine jM ?_);simp -dsimp only[go_sem,seval, *,undef,Xq,Zj,bne_self_eq_false,beq_self_eq_true,YM,Zg,ZJ];first|refine eA gT ny ?_|(refine ez gT ?_ ?_ ?_;(solve|(repeat(first|exact aP.refl _|exact aP.nil _|(refine aP.tup ?_)|(refine aP.agg ?_ rfl)|exact trivial|(refine And.intro ?_ ?_))));(solve|exact .inl rfl|exact .inr rfl)))|(refine Cg gT ?_ ?_ ?_ ?_ ?_ ?_;(solve|rfl|simp only[go_sem,seval]);(solve|rfl);(solve|decide);(solve|simp);(solve|simp only[go_sem,seval,bM]))|(refine DN gT ?_ ?_ ?_ ?_ ?_ ?_;(solve|rfl|simp only[go_sem,seval]);(solve|rfl);(solve|decide);(solve|simp);(solve|simp only[go_sem,seval,bM]))|omega|exact decide_eq_true aa|exact aP.refl _));done)|fail):P:=h
structure Lm (ls:List Nat)(P:Program)(g:Nat)(args:List PV)(h0:List Chunk)(r:PV)(h1:List Chunk):Prop where
 n:Ln ls P g args h0 r h1
structure Lo (ls:List Nat)(P:Program)(g:Nat)(args:List PV)(h0:List Chunk)(r:PV)(h1:List Chunk):Prop where
 n:Ln ls P g args h0 r h1
theorem ap {Q1 P:Prop}(q1:Q1)(h:Hd Q1->P:=by
 intro q1;first|((repeat' (first|(with_reducible refine And.intro ?_ ?_)|(with_reducible refine oS (fun iP=>?_) (fun iP=>?_))|(with_reducible refine ey (fun iP=>?_) (fun iP=>?_))|(with_reducible refine jL aJ)|simp -dsimp only[go_sem,seval, *,undef,Xq,Zj,bne_self_eq_false,beq_self_eq_true,YM,Zg,ZJ]|((with_reducible refine jM ?_);simp -dsimp only[go_sem,seval, *,undef,Xq,Zj,bne_self_eq_false,beq_self_eq_true,YM,Zg,ZJ];first|refine eA gT ny ?_|(refine ez gT ?_ ?_ ?_;(solve|(repeat(first|exact aP.refl _|exact aP.nil _|(refine aP.tup ?_)|(refine aP.agg ?_ rfl)|exact trivial|(refine And.intro ?_ ?_))));(solve|exact .inl rfl|exact .inr rfl)))|(refine Cg gT ?_ ?_ ?_ ?_ ?_ ?_;(solve|rfl|simp only[go_sem,seval]);(solve|rfl);(solve|decide);(solve|simp);(solve|simp only[go_sem,seval,bM]))|(refine DN gT ?_ ?_ ?_ ?_ ?_ ?_;(solve|rfl|simp only[go_sem,seval]);(solve|rfl);(solve|decide);(solve|simp);(solve|simp only[go_sem,seval,bM]))|omega|exact decide_eq_true aa|exact aP.refl _));all_goals((repeat revert iP);first|(with_reducible exact q1.out)))|fail):P:=h ⟨q1⟩
theorem AN {Q1 Q2 P:Prop}(q1:Q1)(q2:Q2)(h:Hd Q1->Hd Q2->P:=by
 intro q1 q2;first|((repeat' (first|(with_reducible refine And.intro ?_ ?_)|(with_reducible refine oS (fun iP=>?_) (fun iP=>?_))|(with_reducible refine ey (fun iP=>?_) (fun iP=>?_))|(with_reducible refine jL aJ)|simp -dsimp only[go_sem,seval, *,undef,Xq,Zj,bne_self_eq_false,beq_self_eq_true,YM,Zg,ZJ]|((with_reducible refine jM ?_);simp -dsimp only[go_sem,seval, *,undef,Xq,Zj,bne_self_eq_false,beq_self_eq_true,YM,Zg,ZJ];first|refine eA gT ny ?_|(refine ez gT ?_ ?_ ?_;(solve|(repeat(first|exact aP.refl _|exact aP.nil _|(refine aP.tup ?_)|(refine aP.agg ?_ rfl)|exact trivial|(refine And.intro ?_ ?_))));(solve|exact .inl rfl|exact .inr rfl)))|(refine Cg gT ?_ ?_ ?_ ?_ ?_ ?_;(solve|rfl|simp only[go_sem,seval]);(solve|rfl);(solve|decide);(solve|simp);(solve|simp only[go_sem,seval,bM]))|(refine DN gT ?_ ?_ ?_ ?_ ?_ ?_;(solve|rfl|simp only[go_sem,seval]);(solve|rfl);(solve|decide);(solve|simp);(solve|simp only[go_sem,seval,bM]))|omega|exact decide_eq_true aa|exact aP.refl _));all_goals((repeat revert iP);first|(with_reducible exact q1.out)|(with_reducible exact q2.out)))|fail)
 (e1:Or1 Q1:=by first|(with_reducible exact(Or1.mk:Or1 True))|exact Or1.mk) (e2:Or1 Q2:=by first|(with_reducible exact(Or1.mk:Or1 True))|exact Or1.mk):P:=h ⟨q1⟩ ⟨q2⟩
theorem ft {Q1 Q2 Q3 Q4 Q5 Q6 Q7 Q8 P:Prop}(q1:Q1)(q2:Q2)(q3:Q3)(q4:Q4)(q5:Q5)(q6:Q6)(q7:Q7)(q8:Q8)(h:Hd Q1->Hd Q2->Hd Q3->Hd Q4->Hd Q5->Hd Q6->Hd Q7->Hd Q8->P:=by
 intro q1 q2 q3 q4 q5 q6 q7 q8;first|((repeat' (first|(with_reducible refine And.intro ?_ ?_)|(with_reducible refine oS (fun iP=>?_) (fun iP=>?_))|(with_reducible refine ey (fun iP=>?_) (fun iP=>?_))|(with_reducible refine jL aJ)|simp -dsimp only[go_sem,seval, *,undef,Xq,Zj,bne_self_eq_false,beq_self_eq_true,YM,Zg,ZJ]|((with_reducible refine jM ?_);simp -dsimp only[go_sem,seval, *,undef,Xq,Zj,bne_self_eq_false,beq_self_eq_true,YM,Zg,ZJ];first|refine eA gT ny ?_|(refine ez gT ?_ ?_ ?_;(solve|(repeat(first|exact aP.refl _|exact aP.nil _|(refine aP.tup ?_)|(refine aP.agg ?_ rfl)|exact trivial|(refine And.intro ?_ ?_))));(solve|exact .inl rfl|exact .inr rfl)))|(refine Cg gT ?_ ?_ ?_ ?_ ?_ ?_;(solve|rfl|simp only[go_sem,seval]);(solve|rfl);(solve|decide);(solve|simp);(solve|simp only[go_sem,seval,bM]))|(refine Cg (Lm.n gT) ?_ ?_ ?_ ?_ ?_ ?_;(solve|rfl|simp only[go_sem,seval]);(solve|rfl);(solve|decide);(solve|simp);(solve|simp only[go_sem,seval,bM]))|(refine Cg (Lo.n gT) ?_ ?_ ?_ ?_ ?_ ?_;(solve|rfl|simp only[go_sem,seval]);(solve|rfl);(solve|decide);(solve|simp);(solve|simp only[go_sem,seval,bM]))|(refine DN gT ?_ ?_ ?_ ?_ ?_ ?_;(solve|rfl|simp only[go_sem,seval]);(solve|rfl);(solve|decide);(solve|simp);(solve|simp only[go_sem,seval,bM]))|omega|exact decide_eq_true aa|exact aP.refl _));all_goals((repeat revert iP);first|(with_reducible exact q1.out)|(with_reducible exact q2.out)|(with_reducible exact q3.out)|(with_reducible exact q4.out)|(with_reducible exact q5.out)|(with_reducible exact q6.out)|(with_reducible exact q7.out)|(with_reducible exact q8.out)))|fail)
 (e1:Or1 Q1:=by first|(with_reducible exact(Or1.mk:Or1 True))|exact Or1.mk) (e2:Or1 Q2:=by first|(with_reducible exact(Or1.mk:Or1 True))|exact Or1.mk) (e3:Or1 Q3:=by first|(with_reducible exact(Or1.mk:Or1 True))|exact Or1.mk) (e4:Or1 Q4:=by first|(with_reducible exact(Or1.mk:Or1 True))|exact Or1.mk) (e5:Or1 Q5:=by first|(with_reducible exact(Or1.mk:Or1 True))|exact Or1.mk) (e6:Or1 Q6:=by first|(with_reducible exact(Or1.mk:Or1 True))|exact Or1.mk) (e7:Or1 Q7:=by first|(with_reducible exact(Or1.mk:Or1 True))|exact Or1.mk) (e8:Or1 Q8:=by first|(with_reducible exact(Or1.mk:Or1 True))|exact Or1.mk):P:=h ⟨q1⟩ ⟨q2⟩ ⟨q3⟩ ⟨q4⟩ ⟨q5⟩ ⟨q6⟩ ⟨q7⟩ ⟨q8⟩
theorem FT {s:Bool}{ents:List (List Int × Int)}{seen:List Nat}(h:(leftOf (bA s ents 0).toArray seen.toArray).size=0){i:Nat}(hi:i < ents.length):i∈seen:=by
 have hg:=p3 s ents 0 i;rw[Xk hi]at hg;have hm:=Xl hg;refine Classical.byContradiction fun hn=>?_;have:{key:=j1 s ents[i].1,val:=Value.int .i64 ents[i].2,born:=0+i:MapEntry}∈(leftOf (bA s ents 0).toArray seen.toArray).toList:=by
  unfold leftOf;simp;exact⟨by simpa using hm,by simpa using hn⟩
 have hz:(leftOf (bA s ents 0).toArray seen.toArray).toList=[]:=by
  have:(leftOf (bA s ents 0).toArray seen.toArray)=#[]:=_s h;rw[this]
 rw[hz]at this;simp at this
theorem FU {s:Bool}{ents:List (List Int × Int)}{seen:List Nat}{x:MapEntry}(h:x∈(leftOf (bA s ents 0).toArray seen.toArray).toList):∃i,i < ents.length/\i∉seen/\x.born=i:=by
 unfold leftOf at h;simp at h;have:=lK s ents 0 x h.1;exact⟨x.born,by omega,by simpa using h.2,rfl⟩
theorem RealC.set_it {X:Cfg}{s:FS}{a:Act}{w:World}{c:Cx}(h:RealC X s a w c){k n b bm:Nat}{sB:Bool}{ents:List (List Int × Int)}{seen:List Nat}(i:Nat)(hk:s.heap k= .it n sB ents seen)(hb:c.bl k=some b)(hh:w.heap[b]? =some (.mapIter (some bm) ents.length seen.toArray ents.length))(hM:¬c.M bm)(hm:w.heap[bm]? =some (.map (bA sB ents 0).toArray ents.length)):
 RealC X {s with heap:=cH [(k,.it n sB ents (seen++[i]))] s.heap} a {w with heap:=w.heap.setIfInBounds b (.mapIter (some bm) ents.length (seen.toArray.push i) ents.length)} c:=by
 have cz:c.block k (s.heap k)=some b:=by rw[hk];exact hb
 have hlt:b < w.heap.size:=(Yz.1 hh).1;have bH:b≠bm:=fun e=>hM ((h.mu bm).2 (.inr ⟨k,by rw[cz,e]⟩));have a2E:(w.heap.setIfInBounds b (.mapIter (some bm) ents.length (seen.toArray.push i) ents.length))[b]? =some (.mapIter (some bm) ents.length (seen.toArray.push i) ents.length):=by simp[hlt]
 have rz:∀b',b'≠b->(w.heap.setIfInBounds b (.mapIter (some bm) ents.length (seen.toArray.push i) ents.length))[b']? =w.heap[b']? :=fun b' hb'=>by
  rw[Array.getElem?_setIfInBounds];rw[af (fun e=>hb' e.symm)]
 refine h.turn c.le_refl rfl (fun _ _=>rfl) (fun _ _=>rfl) rfl rfl rfl ah (fun b' _ hb'=>rz b' (fun e=>hb' (by rw[e];exact cz))) (fun b'=>?_) (fun b' hb'=>?_) (fun nu=>?_)
 ·exact a3F
 ·exact a4t
 ·exact .it n sB ents (seen++[i]) b bm hb (by rw[a2E];simp) hM (by rw[rz bm (fun e=>bH e.symm)];exact hm)
section
variable {P:Program}{n m:Nat}{T:Nat->Option TI}{Q:Nat->Option Nat}{K K':KT}{e:cu}{h:List Chunk}
theorem FV {c:Code}(hK:∀x e h,K x e h->K' x e h)(hs:wA P n m c K e h):wA P n m c K' e h:=fun X hX hn sY a w hr=>
 wp_mono (hs X hX hn sY a w hr) fun _ _ _ ⟨e',h',hk,hr'⟩=>⟨e',h',hK _ _ _ hk,hr'⟩
theorem Ks {a b:Code}(co:TabOK P T Q)(oF:P.follows .mixedOrders=true)(hb:m8 n b=true)(ha:wA P n m a (yK (sC P n m T Q b K ⟨⟩) K) e h):wA P n m (.seq a b) K e h:=
 Kg fun C hC=>FV (fun x e h hk=>by
  cases x with
  |normal=>exact hC _ _ (jK co oF b _ _ _ hb hk)
  |_=>exact hk) ha
theorem FW (co:TabOK P T Q){id d1 d2 k nn:Nat}{o1 o2:Oper}{x:Operand}{sB:Bool}{ents:List (List Int × Int)}{seen:List Nat}(pA:m<=h.length)(ho1:o1.op= .next x false)(hg1:o1.guard=none)(Vg:o1.dst=some d1)(Sa:o2.op= .extract (.tmp d1) 0)(hg2:o2.guard=none)(C7:o2.dst=some d2)(hn1:d1 < n)(C4:d2 < n)
 (hx:dX e x= .ptr k 0) (hk:aD h k= .it nn sB ents seen) (xT:k < h.length)
 (h0:(∀i,i < ents.length->i∈seen)->K .normal (ig (ig e (some d1) (.tup [.d (.v (.bool false))])) (some d2) (.d (.v (.bool false)))) h)
 (h1:∀i,i < ents.length->i∉seen->K .normal (ig (ig e (some d1) (.tup [.d (.v (.bool true)),.any,.any])) (some d2) (.d (.v (.bool true)))) (sg [(k,.it nn sB ents (seen++[i]))] h)):wA P n m (.region id #[o1,o2] false) K e h:=by
 intro X hX hn sY a w hr;subst hX;subst hn;subst sY;obtain⟨c,hc⟩:=hr;refine wp_region_list ?_;show wpList X.P #[o1,o2] _ [o1,o2] a w;unfold wpList;rw[aj (by unfold Region.wanted;rw[hg1])];left;have e1:=bR hc x;rw[aF,hx]at e1;have bp:=hc.chunk k;have jV:(bS e h).heap k= .it nn sB ents seen:=hk;rw[jV]at bp;generalize hu:a.eval x=u at e1;have fin:∀(tp:PV) (b:Bool) (e':cu) (h':List Chunk) (a':Act) (w':World),e'=ig e (some d1) tp->(∃l,tp= .tup (.d (.v (.bool b))::l))->X.m<=h'.length->lF X (bS e' h') a' w'->K .normal (ig e' (some d2) (.d (.v (.bool b)))) h'->wpList X.P #[o1,o2] (RK X K) [o2] a' w':=by
  rintro tp b e' h' a' w' he ⟨l,rfl⟩ hm' hr' hK;unfold wpList;rw[aj (by unfold Region.wanted;rw[hg2])];left;have mP:SL T Q e' h' o2= .res (.d (.v (.bool b))) [] [] True:=by
   unfold SL;rw[Sa];simp only[dX];rw[show fF e' d1= .tup (.d (.v (.bool b))::l) by rw[he];simp[ig,fF]];simp[BX]
  have bJ:=Pq (X:=X) (ops:=#[o1,o2]) co (fun d hd=>by rw[C7]at hd;cases hd;exact C4) hm' mP trivial;refine bJ.2.2 (bS e' h') (fun _ _=>rfl) (fun _ _=>rfl) a' w' hr' _ _ fun v w'' hr''=>?_;unfold wpList;refine⟨_,_,hK,?_⟩;rw[qP (fun kc h=>by simp at h),C7]at hr'';rw[<-C7]at hr'';simpa[sg,C7]using hr''
 cases e1 with
 |ptr _ _ b hb=>
  cases bp with
  |it _ _ _ _ b' bm hb' hh hM hm=>
   rw[hb]at hb';cases hb';have HJ:∀(tp:PV) (v:Value) (h':List Chunk) (w':World) (c':Cx),RealC X (bS e h') a w' c'->RepP c' w' tp v->lF X (bS (ig e (some d1) tp) h') (a.put o1.dst v) w':=by
    intro tp v h' w' c' hc' hp;have:=hc'.put (dst:=o1.dst) hp (fun d hd=>by rw[Vg]at hd;cases hd;exact hn1);have h2:=qP (e:=e) (h:=h') (dst:=o1.dst) (p:=tp) (eff:=[]) (touch:=[]) (fun kc h=>by simp at h);rw[<-Vg];refine⟨c',?_⟩;show RealC X (bS (ig e o1.dst tp) (sg [] h')) _ w' c';rw[<-h2];exact this
   rcases run_next_at (P:=X.P) w o1.type b bm ents.length ents.length seen.toArray (bA sB ents 0).toArray ents.length hh hm (fun x hx=>by have:=lK sB ents 0 x (by simpa using hx);omega) (Xz _)with⟨hz,cr⟩|⟨x1,nq,w1,ci,cr⟩
   ·unfold Oper.wp;have hex:(execOp a.eval o1).run X.P w= .ok (.value (.tuple #[.bool false])) w:=by
     simp only[execOp,ho1,hu];rw[Sem.run_bind,cr];rfl
    rw[hex];exact fin (.tup [.d (.v (.bool false))]) false _ h _ _ rfl ⟨_,rfl⟩ pA (HJ _ _ h w c hc (.tup _ [.bool false] rfl (fun j d y h1 h2=>by
     match j with
     |0=>exact a5j
     |j+1=>simp at h1))) (h0 fun i hi=>FT hz hi)
   ·obtain⟨i,hi,hns,hbi⟩:=FU nq;have Vi:RealC X (bS e h) a w1 c:=by
     rcases ci with rfl|rfl
     ·exact hc
     ·exact hc.grow ⟨rfl,rfl,rfl,Xz _,fun _ _=>rfl⟩
    have AD:w1.heap=w.heap:=by rcases ci with rfl|rfl<;>rfl
    have jc:=Vi.set_it i jV hb (by rw[AD];exact hh) hM (by rw[AD];exact hm);unfold Oper.wp;have hex:(execOp a.eval o1).run X.P w= .ok (.value (.tuple #[.bool true,x1.key,x1.val])) {w1 with heap:=w1.heap.setIfInBounds b (.mapIter (some bm) ents.length (seen.toArray.push i) ents.length)}:=by
     simp only[execOp,ho1,hu];rw[Sem.run_bind,cr,<-hbi];rfl
    rw[hex];have bB:∀kc∈[(k,Chunk.it nn sB ents (seen++[i]))],kc.1<=h.length:=fun kc SW=>by simp at SW;subst SW;omega
    have hlc:aD (sg [(k,Chunk.it nn sB ents (seen++[i]))] h)=cH [(k,Chunk.it nn sB ents (seen++[i]))] (aD h):=funext (uZ bB);have a1I:RealC X (bS e (sg [(k,Chunk.it nn sB ents (seen++[i]))] h)) a {w1 with heap:=w1.heap.setIfInBounds b (.mapIter (some bm) ents.length (seen.toArray.push i) ents.length)} c:=by
     have:bS e (sg [(k,Chunk.it nn sB ents (seen++[i]))] h)={bS e h with heap:=cH [(k,.it nn sB ents (seen++[i]))] (bS e h).heap}:=by
      simp only[bS,hlc]
     rw[this];exact jc
    refine fin (.tup [.d (.v (.bool true)),.any,.any]) true _ _ _ _ rfl ⟨_,rfl⟩ ?_ (HJ _ _ _ _ c a1I (.tup _ [.bool true,x1.key,x1.val] rfl (fun j d y h1 h2=>by
     match j with
     |0=>exact a5j
     |1=>exact a6a
     |2=>exact a6a
     |j+3=>simp at h1))) (h1 i hi hns)
    exact Yy pA tE
theorem VE {c:Code}(I:Nat->cu->List Chunk->Prop)(mm:Nat)(e1:cu)(h1:List Chunk)(h0:I mm e1 h1)(hw:eS P n m e h e1 h1)
 (hr:∀k e h,I k e h->∀C:cu->List Chunk->Prop,(∀k' e1 h1 e h,k' < k->I k' e1 h1->eS P n m e h e1 h1->C e h)->wA P n m c (vf C K) e h):FO P n m c K ⟨⟩ e h:=
 fun _=>FF I mm e1 h1 h0 hw fun k e h hI C hC=>FV (fun x e h hk=>by cases x<;>exact hk) (hr k e h hI C hC)
end
@[go_sem] theorem a3g (h:Nat->Chunk)(l:List D):cI (vw h) (l.map .d)=some l:=xG h 6 l
@[go_sem] theorem a3h (h:Nat->Chunk)(l:List D):j3 (tc h) (l.map .d)=[]:=Dx h 6 l
def cv {α:Type}(p:α->Bool)(l:List α):Int:=match l.findIdx? p with|some i=>(i:Int)|none=> -1
theorem gC {α:Type}{p:α->Bool}{l:List α}{k:Nat}{x:α}(hx:l[k]? =some x)(hp:p x=true)(cg:∀y∈l.take k,p y=false):cv p l=k:=by
 have h:l.findIdx? p=some k:=by
  rw[XI];obtain⟨hk,hx'⟩:=Xn.1 hx;refine⟨hk,by rw[hx'];exact hp,fun j hj=>?_⟩;have:=cg l[j] (Xl (by rw[XP hj];exact Xk aa));rw[this];simp
 simp[cv,h]
theorem gD {α:Type}{p:α->Bool}{l:List α}(cg:∀y∈l,p y=false):cv p l= -1:=by
 have h:l.findIdx? p=none:=by rw[Yn];exact cg
 simp[cv,h]
theorem gq {α:Type}(p:α->Bool)(l:List α):decide (cv p l>=0)=l.any p:=by
 unfold cv;cases h:l.findIdx? p with
 |none=>
  rw[Yn]at h;have:l.any p=false:=by rw[Yh];intro x hx;rw[h x hx];simp
  rw[this];rfl
 |some i=>
  obtain⟨hi,hp,_⟩:=XI.1 h;have:l.any p=true:=XU.2 ⟨_,Ye hi,hp⟩;rw[this];simp
def eQ (a b:Int):Int:=if a < b then -1 else if a>b then 1 else 0
theorem tL (a b:Int):decide (eQ a b < 0)=decide (a < b):=by
 unfold eQ;split
 ·simp[*]
 ·split<;>simp[*]
theorem vl (a b:Int):(eQ a b==0)=(a==b):=by
 unfold eQ;split
 ·rename_i h;rw[Yk];simp;omega
 ·split
  ·rw[Yk];simp;omega
  ·rw[Yk];simp;omega
theorem yQ (x:Int):IntKind.u64.wrap x=x % 18446744073709551616:=rfl
def j8 {α:Type}(key:α->Int)(t:Int)(l:List α):Nat:=l.findIdx fun x=>decide (t<=key x)
def tM {α:Type}(key:α->Int)(t:Int)(l:List α):Bool:=match l[j8 key t l]? with|some x=>key x==t|none=>false
theorem so {α:Type}{key:α->Int}{t:Int}{l:List α}{i:Nat}(hi:i<=l.length)(j0:∀q (hq:q < l.length),q < i->key l[q] < t)(lh:∀q (hq:q < l.length),i<=q->t<=key l[q]):j8 key t l=i:=by
 unfold j8;rcases XM i l.length with h|h
 ·rw[List.findIdx_eq h];refine⟨by simpa using lh i h (Xz _),fun j hj=>?_⟩;have:=j0 j aa hj;simp;omega
 ·obtain rfl:i=l.length:=aa;rw[List.findIdx_eq_length];intro x hx;obtain⟨q,hq,rfl⟩:=X3.1 hx;have:=j0 q hq hq;simp;omega
theorem pj {f nt:Nat}{fn:Func}{c:Code}{rs:Array ResultVar}{ds:List D}{r:D}(hf:prog.funcs[f]? =some fn)(hn:fn.ntmps=nt)(hr:fn.results=rs)
 (hp:sC prog nt 0 A8 Pv c (tG A8 rs.toList r) ⟨⟩ (si (ds.map .d) 0) []) (hb:fn.body=some c:=by exact rfl) (hc:IK fn nt c ds.length=true:=by kernel_rfl):ai prog f ds r:=a2p ag am hf hb hn hr hc hp
theorem mj {f nt:Nat}{fn:Func}{c:Code}{rs:Array ResultVar}{args:List PV}{h0 h1:List Chunk}{r:PV}(hf:prog.funcs[f]? =some fn)(hn:fn.ntmps=nt)(hr:fn.results=rs)
 (hp:sC prog nt h0.length A8 Pv c (A7 prog h0.length A8 rs.toList r h1) ⟨⟩ (si args 0) h0) (hb:fn.body=some c:=by exact rfl) (hc:IK fn nt c args.length=true:=by kernel_rfl)
 (hle:h0.length<=h1.length:=by simp) (Ew:aq h0.length args=true:=by simp[aq,au]) (hbh:aH h0.length h0=true:=by simp[aH,aR,aq,au,bu,aC]):MSpec prog f args h0 r h1:=jN ag am hf hb hn hr hc hle Ew hbh hp
theorem gt {p:Prop}(h:p:=by
 rintro m e h ⟨k,hk,cg,rfl,rfl,rfl⟩ CL oH;by_cases hlt:k < l.length
 ·obtain⟨x,hx⟩:∃x,l[k]? =some x:=⟨_,Xk hlt⟩;have ed:(k:Int) < (l.length:Int):=aa;have db:=wi k aa;have bB:=cU x;have jd:=XG (YZ (cU x));have lg:=hc x (Xl hx);cases hp:p x with
  |false=>
   rw[hp]at lg;refine ap ?_<;>intros;refine oH _ _ _ _ _ ?_ ⟨k+1,hlt,?_,rfl,rfl,rfl⟩ (wf (x:=[]) (hh:=rfl) (he:=⟨rfl,rfl,rfl,rfl,rfl,trivial⟩))
   ·omega
   ·intro y hy;rw[ak hx]at hy;rcases X0.1 hy with hy|hy
    ·exact cg y hy
    ·rw[X7]at hy;rw[hy];exact hp
  |true=>
   rw[hp]at lg;have mK:cv p l=k:=gC hx hp cg;exact bc;all_goals rw[mK]
   all_goals exact aP.refl _
 ·obtain rfl:k=l.length:=aa;rw[Xq]at cg;refine ap ?_<;>intros;all_goals rw[gD cg]
  all_goals exact aP.refl _):p:=h
theorem a3J {p:Prop}(h:p:=by
 exact wf (x:=[]) (hh:=rfl) (he:=⟨rfl,rfl,rfl,rfl,rfl,trivial⟩)):p:=h
theorem FX {α:Type}{enc:α->List D}(cU:∀x,(enc x).length=2)(p:α->Bool)(l:List α)(g:Nat)(caps:List D)(hl:l.length<=1000000000)(hc:∀x∈l,ai prog g (.agg (enc x)::caps) (.v (.bool (p x)))):
 ai prog 206 [.sl 2 (l.map enc),.clo g caps] (.v (.int .i64 (cv p l))):=by
 refine pj func206 ntmps206 results206 ?_;refine ap ?_<;>intros;refine bQ ag am (fun m e h=>∃k:Nat,k<=l.length/\(∀x∈l.take k,p x=false)/\m=l.length - k/\e=[(8,.d (.v (.int .i64 k))),(7,.d (.v (.int .i64 l.length))),(4,.d (.v (.int .i64 0))),(1,.d (.clo g caps)),(0,.d (.sl 2 (l.map enc)))]/\h=[]) _ _ _ ⟨0,XD _,by simp,rfl,rfl,rfl⟩ ?_ ?_
 ·exact a3J
 ·exact gt
theorem wD {α:Type}{enc:α->List D}(cU:∀x,(enc x).length=2)(p:α->Bool)(l:List α)(g:Nat)(caps:List D)(hl:l.length<=1000000000)(hc:∀x∈l,ai prog g (.agg (enc x)::caps) (.v (.bool (p x)))):
 ai prog 122 [.sl 2 (l.map enc),.clo g caps] (.v (.bool (l.any p))):=by
 have hi:=FX cU p l g caps hl hc;have jY:=gq p l;refine pj func122 ntmps122 results122 ?_;exact bc;all_goals exact aP.refl _
theorem lL (a:Int):ai prog 245 [.v (.int .i64 a)] (.v (.bool false)):=by
 have h:(a !=a)=false:=ah;refine pj func245 ntmps245 results245 ?_;exact bc;all_goals exact aP.refl _
theorem od (a b:Int):ai prog 176 [.v (.int .i64 a),.v (.int .i64 b)] (.v (.int .i64 (eQ a b))):=by
 rcases Int.lt_trichotomy a b with h|h|h
 ·have h1:decide (a < b)=true:=by simpa using h
  have e:eQ a b= -1:=by simp[eQ,h]
  refine pj func176 ntmps176 results176 ?_;have z1z:=lL a;have z2z:=lL b;exact bc;all_goals(rw[e];exact aP.refl _)
 ·subst h;have e:eQ a a=0:=by simp[eQ]
  have h1:decide (a>a)=false:=ah;refine pj func176 ntmps176 results176 ?_;have z1z:=lL a;exact bc;all_goals(rw[e];exact aP.refl _)
 ·have h1:decide (a < b)=false:=aK;have h2:decide (a>b)=true:=by simpa using h
  have e:eQ a b=1:=by unfold eQ;rw[af aa,aj h]
  refine pj func176 ntmps176 results176 ?_;have z1z:=lL a;have z2z:=lL b;exact bc;all_goals(rw[e];exact aP.refl _)
theorem FY:∀(h:List Chunk) (k:Nat),aD (h.map fun _=>Chunk.gone) k=if k < h.length then .gone else .none
 |[],_=>rfl
 |c::l,0=>rfl
 |c::l,k+1=>by simp only[Xm,aD,FY l k,Xx,Nat.add_lt_add_iff_right]
theorem vm {P:Program}{f:Nat}{args:List PV}{h0:List Chunk}{ds:List D}{r:D}(hp:ai P f ds r)(Ew:aq h0.length args=true)(hbh:aH h0.length h0=true)(hv:cI (vw (aD h0)) args=some ds)(ht:∀k∈j3 (tc (aD h0)) args,k < h0.length):MSpec P f args h0 (.d r) (h0.map fun _=> .gone):=by
 refine⟨hp.1,by simp,Ew,hbh,fun X hP hn hm w c vs hr mL=>?_⟩;subst hP;have hf:=hr.freeze (X8 h0.length);obtain⟨q1,q2⟩:=fG hv;have bC:eE (m5 c (aD h0) (X8 h0.length)) w ds vs:=⟨by rw[<-q1];exact mL.1,fun j d x hj hx=>by
  obtain⟨p,hp',AB⟩:=q2 j d hj;exact mb hr 6 AB (fun k hk=>YS.2 (ht k (gp (Xl hp') k hk))) (mL.2 j p x hp' hx)⟩
 refine(hp.2 _ w vs (fun b hb=>hr.lt hb.1) (hr.ginv.keep ⟨Xz _,fun _ _ _=>rfl,fun b _ hb=>hb.1⟩) bC).mono ?_;rintro e w' ⟨v,rfl,hv',hx⟩;refine⟨v,{c with M:=m5 c (aD h0) (X8 h0.length)},rfl,.d _ _ hv',?_⟩;have hg:=hf.grow hx;have he:({bS [] h0 with heap:=cH ((X8 h0.length).map fun k=>(k,.gone)) (bS [] h0).heap}:FS)=bS [] (h0.map fun _=> .gone):=by
  simp only[bS,FS.mk.injEq,true_and];funext k;rw[nW,FY];by_cases hk:k < h0.length
  ·rw[aj (YS.2 hk),aj hk]
  ·rw[af (fun h=>hk (YS.1 h)),af hk];exact oQ h0 k aa
 rw[he]at hg;exact hg
theorem a5m {p:Prop}(h:p:=by
 intro k';rw[hh];split
 ·rename_i he;subst he;show _=c.block k' (aD h k');rw[hk];rfl
 ·rfl):p:=h
theorem PM (p:PV):ple p p:= .inl rfl
theorem Ch:∀(l:List PV),xm l l
 |[]=>trivial
 |p::l=>⟨PM p,Ch l⟩
theorem FZ:∀{a b c d:List PV},xm a b->xm c d->xm (a++c) (b++d)
 |[],[],_,_,_,h=>h
 |[],_::_,_,_,h,_=>h.elim
 |_::_,[],_,_,h,_=>h.elim
 |_::_,_::_,_,_,⟨h1,h2⟩,h=>⟨h1,FZ h2 h⟩
theorem F1:∀{a b:List PV},xm a b->a.length=b.length
 |[],[],_=>rfl
 |[],_::_,h=>h.elim
 |_::_,[],h=>h.elim
 |_::_,_::_,⟨_,h⟩=>by simp[F1 h]
theorem IM:∀{a b:List D},sj a b->xm (a.map .d) (b.map .d)
 |[],[],_=>trivial
 |[],_::_,h=>h.elim
 |_::_,[],h=>h.elim
 |_::_,_::_,⟨h1,h2⟩=>⟨.inr ⟨_,_,rfl,rfl,h1⟩,IM h2⟩
def xn:List (List PV)->List (List PV)->Prop
 |[],[]=>True
 |r::l,s::m=>xm r s/\xn l m
 |_,_=>False
theorem vn:∀(l:List (List PV)),xn l l
 |[]=>trivial
 |r::l=>⟨Ch r,vn l⟩
theorem F3:∀{a b c d:List (List PV)},xn a b->xn c d->xn (a++c) (b++d)
 |[],[],_,_,_,h=>h
 |[],_::_,_,_,h,_=>h.elim
 |_::_,[],_,_,h,_=>h.elim
 |_::_,_::_,_,_,⟨h1,h2⟩,h=>⟨h1,F3 h2 h⟩
theorem Ci:∀{a b:List (List PV)},xn a b->xm a.flatten b.flatten
 |[],[],_=>trivial
 |[],_::_,h=>h.elim
 |_::_,[],h=>h.elim
 |_::_,_::_,⟨h1,h2⟩=>FZ h1 (Ci h2)
theorem F4:∀{a b:List (List PV)},xn a b->a.length=b.length
 |[],[],_=>rfl
 |[],_::_,h=>h.elim
 |_::_,[],h=>h.elim
 |_::_,_::_,⟨_,h⟩=>by simp[F4 h]
theorem Kt {sz:Nat}:∀{a b:List (List PV)},xn a b->(∀r∈a,r.length=sz)->∀r∈b,r.length=sz
 |[],[],_,_=>fun r h=>by simp at h
 |[],_::_,h,_=>h.elim
 |_::_,[],h,_=>h.elim
 |_::_,_::_,⟨h1,h2⟩,h=>fun r hr=>by
  rcases X2.1 hr with rfl|hr
  ·rw[<-F1 h1];exact h _ ah
  ·exact Kt h2 (fun r hr=>h r (by simp[hr])) r hr
theorem tN {A B:List (List D)}{r s:List D}(h:sj r s):xn (ab (A++r::B)) (ab (A++s::B)):=by
 simp only[ab,Xo,Xm];exact F3 (vn _) ⟨IM h,vn _⟩
theorem mc {α:Type}{enc:α->List D}(h:∀x,(enc x).all D.one=true)(l:List α):∀r∈ab (l.map enc),∀d∈r,d.one=true:=fun r hr d hd=>by
 obtain⟨q,hq,rfl⟩:=jo hr;obtain⟨x,-,rfl⟩:=XN.1 hq;obtain⟨y,hy,rfl⟩:=XN.1 hd;exact XA.1 (h x) y hy
theorem RealC.row_le {X:Cfg}{e:cu}{h:List Chunk}{a:Act}{w:World}{c:Cx}(hr:RealC X (bS e h) a w c){k E sz g:Nat}{rows rows':List (List PV)}(hk:aD h k= .row E sz g rows)(hlt:k < h.length)(hle:xn rows rows')(h1:∀r∈rows',∀d∈r,d.one=true):
 RealC X (bS e (bD h k (.row E sz g rows'))) a w c:=by
 have hh:∀k',(bS e (bD h k (.row E sz g rows'))).heap k'=if k'=k then .row E sz g rows' else (bS e h).heap k':=fun k'=>iB (V' hlt) k';have hb:∀k',c.block k' ((bS e (bD h k (.row E sz g rows'))).heap k')=c.block k' ((bS e h).heap k'):=a5m
 refine⟨hr.size,hr.defers,hr.ext,hr.inv,hr.fresh,fun b=>?_,fun k' b Lx=>?_,fun k' k'' b h1 h2=>?_,hr.env,fun k'=>?_,hr.lent⟩
 ·rw[hr.mu b];simp only[hb]
 ·rw[hb]at Lx;exact hr.new k' b Lx
 ·rw[hb]at h1 h2;exact hr.apart k' k'' b h1 h2
 ·rw[hh];split
  ·rename_i he;subst he;have bp:=hr.chunk k';rw[show (bS e h).heap k'=_ from hk]at bp;cases bp with
   |row _ _ _ _ v xs hv bj JX cL dL hg=>
    exact .row E sz g rows' v xs hv (by rw[<-F4 hle];exact bj) (tK (Ci hle) JX) (Kt hle cL) h1 hg
  ·exact hr.chunk k'
theorem wE {P:Program}{n m:Nat}{e:cu}{h:List Chunk}(k:Nat){E sz g:Nat}{rows rows':List (List PV)}(hk:aD h k= .row E sz g rows)(hlt:k < h.length)(hle:xn rows rows')(h1:∀r∈rows',∀d∈r,d.one=true):eS P n m e h e (bD h k (.row E sz g rows')):=
 fun X _ _ _ a w ⟨c,hc⟩=>⟨c,hc.row_le hk hlt hle h1⟩
theorem MSpec.leh {P:Program}{f:Nat}{args:List PV}{E sz g:Nat}{rows rows':List (List PV)}{r:PV}{h1:List Chunk}(hM:MSpec P f args [.row E sz g rows'] r h1)(hle:xn rows rows')(ho:∀r∈rows',∀d∈r,d.one=true)(hb:cE 1 rows=true):MSpec P f args [.row E sz g rows] r h1:=
 ⟨hM.fn,hM.le,hM.ba,by simp only[Xx,XX,aH,aR,XE,hb,Yq],fun X hP hn hm w c vs hr mL=>hM.run X hP hn hm w c vs (hr.row_le (k:=0) rfl ah hle ho) mL⟩
theorem yR {α:Type}{enc:α->List D}(cU:∀x,(enc x).length=3)(p:α->Bool)(l:List α)(g:Nat)(caps:List D)(hl:l.length<=1000000000)(hc:∀x∈l,ai prog g (.agg (enc x)::caps) (.v (.bool (p x)))):
 ai prog 185 [.sl 3 (l.map enc),.clo g caps] (.v (.int .i64 (cv p l))):=by
 refine pj func185 ntmps185 results185 ?_;refine ap ?_<;>intros;refine bQ ag am (fun m e h=>∃k:Nat,k<=l.length/\(∀x∈l.take k,p x=false)/\m=l.length - k/\e=[(8,.d (.v (.int .i64 k))),(7,.d (.v (.int .i64 l.length))),(4,.d (.v (.int .i64 0))),(1,.d (.clo g caps)),(0,.d (.sl 3 (l.map enc)))]/\h=[]) _ _ _ ⟨0,XD _,by simp,rfl,rfl,rfl⟩ ?_ ?_
 ·exact a3J
 ·exact gt
theorem oU {α:Type}{enc:α->List D}(cU:∀x,(enc x).length=3)(p:α->Bool)(l:List α)(g:Nat)(caps:List D)(hl:l.length<=1000000000)(hc:∀x∈l,ai prog g (.agg (enc x)::caps) (.v (.bool (p x)))):
 ai prog 247 [.sl 3 (l.map enc),.clo g caps] (.v (.bool (l.any p))):=by
 have hi:=yR cU p l g caps hl hc;have jY:=gq p l;refine pj func247 ntmps247 results247 ?_;exact bc;all_goals exact aP.refl _
theorem yS {α:Type}{enc:α->List D}(cU:∀x,(enc x).length=4)(p:α->Bool)(l:List α)(g:Nat)(caps:List D)(hl:l.length<=1000000000)(hc:∀x∈l,ai prog g (.agg (enc x)::caps) (.v (.bool (p x)))):
 ai prog 251 [.sl 4 (l.map enc),.clo g caps] (.v (.int .i64 (cv p l))):=by
 refine pj func251 ntmps251 results251 ?_;refine ap ?_<;>intros;refine bQ ag am (fun m e h=>∃k:Nat,k<=l.length/\(∀x∈l.take k,p x=false)/\m=l.length - k/\e=[(8,.d (.v (.int .i64 k))),(7,.d (.v (.int .i64 l.length))),(4,.d (.v (.int .i64 0))),(1,.d (.clo g caps)),(0,.d (.sl 4 (l.map enc)))]/\h=[]) _ _ _ ⟨0,XD _,by simp,rfl,rfl,rfl⟩ ?_ ?_
 ·exact a3J
 ·exact gt
theorem yT {α:Type}{enc:α->List D}(cU:∀x,(enc x).length=4)(p:α->Bool)(l:List α)(g:Nat)(caps:List D)(hl:l.length<=1000000000)(hc:∀x∈l,ai prog g (.agg (enc x)::caps) (.v (.bool (p x)))):
 ai prog 187 [.sl 4 (l.map enc),.clo g caps] (.v (.bool (l.any p))):=by
 have hi:=yS cU p l g caps hl hc;have jY:=gq p l;refine pj func187 ntmps187 results187 ?_;exact bc;all_goals exact aP.refl _
theorem Cj {α:Type}{enc:α->List D}(cU:∀x,(enc x).length=2)(p:α->Bool)(l:List α)(g:Nat)(caps:List D)(hl:l.length<=1000000000)(hc:∀x∈l,ai prog g (.agg (enc x)::caps) (.v (.bool (p x)))):
 ai prog 256 [.sl 2 (l.map enc),.clo g caps] (.v (.int .i64 (cv p l))):=by
 refine pj func256 ntmps256 results256 ?_;refine ap ?_<;>intros;refine bQ ag am (fun m e h=>∃k:Nat,k<=l.length/\(∀x∈l.take k,p x=false)/\m=l.length - k/\e=[(8,.d (.v (.int .i64 k))),(7,.d (.v (.int .i64 l.length))),(4,.d (.v (.int .i64 0))),(1,.d (.clo g caps)),(0,.d (.sl 2 (l.map enc)))]/\h=[]) _ _ _ ⟨0,XD _,by simp,rfl,rfl,rfl⟩ ?_ ?_
 ·exact a3J
 ·exact gt
theorem MP {α:Type}{enc:α->List D}(cU:∀x,(enc x).length=2)(p:α->Bool)(l:List α)(g:Nat)(caps:List D)(hl:l.length<=1000000000)(hc:∀x∈l,ai prog g (.agg (enc x)::caps) (.v (.bool (p x)))):
 ai prog 263 [.sl 2 (l.map enc),.clo g caps] (.v (.bool (l.any p))):=by
 have hi:=Cj cU p l g caps hl hc;have jY:=gq p l;refine pj func263 ntmps263 results263 ?_;exact bc;all_goals exact aP.refl _
section
open Go.Proofs
structure Hr (Q:Prop):Prop where
 out:Q
theorem Oq {Q P:Prop}(q:Q)(h:Hr Q->P:=by
 intro q;refine r5 aJ aJ ?_;repeat(first|((first|refine H7 rfl rfl rfl cG ?_|refine H8 rfl rfl rfl cG ?_|refine H9 rfl rfl rfl cG ?_);simp only[Act.put,XO,XQ,XZ])|(apply rY;(first|exact dG rfl|exact ei rfl rfl rfl cG);intro wq iP R hR;(have mX:=(aV iP).1;(try simp only[Xs,ae,Xw,Xu]at mX);go_simp;first|exact hR|(first|(go_at_call 134;exact xX iP (sq _ _ _) hR)|(go_at_call 224;exact xX iP (wF _ _ _ _) hR)|(go_at_call 136;exact xX iP (tO _ _ _ gT) hR)|(go_at_call 55;exact xY iP (gZ _ _ _ _) hR)|(go_at_call 225;exact xY iP (yU _ _ g1 g2) hR)));simp only[Act.put,XO,XQ,XZ]))
 refine wpQuiet_nil ?_;exact q.out):P:=h ⟨q⟩
def eX (n:Int):Int:=2 ^ (16 - n).toNat
theorem fH {n:Int}(h0:0<=n):1<=eX n/\eX n<=65536:=by have:=yL n h0;unfold eX;omega
theorem yU (n:Int)(w:World)(h0:0<=n)(h1:n<=16):
 Calls prog 225 #[.int .i64 n] w fun e w'=>e= .returned (.int .i64 (eX n))/\w=w':=by
 have hp:=yL n h0;go_enter func225,ntmps225
 go_wp2
 go_ret
 exact⟨rfl,rfl⟩
theorem xo (a l:Int)(w:World):
 Calls prog 223 #[.agg #[.int .i64 a,.int .i64 l]] w fun e w'=>e= .returned (.int .i64 (chk a l))/\cM w w':=by
 by_cases hl:0<=l/\l<=16
 ·have e1:dH l 0 16=true:=by simp[dH,hl]
  by_cases ha:0<=a/\a<=65535
  ·have e2:dH a 0 65535=true:=by simp[dH,ha]
   have hm:=yL l hl.1;obtain⟨⟨g1,g2⟩,g3,g4⟩:=And.intro hl ha;clear hl ha;obtain⟨z1,z2⟩:=fH g1;have z3:¬eX l=0:=aa;have hc:=Xj (IF g1 g2 g3 g4);go_enter func223,ntmps223
   go_wp2_with (first|(go_at_call 55;refine(gZ _ _ _ _).mono ?_;rintro e w' ⟨rfl,rfl⟩))
   refine Oq ?_;intro w1 ci;obtain⟨cm,cq⟩:=aV ci;have ct:=bv ci;(try simp only[Xs,ae,Xw,Xu]at cm cq ct)
   go_wp2_with fail
   ·go_ret
    rename_i h;refine⟨b9 ?_,?_⟩
    ·rw[hc.out,af (by rw[Int.tmod_eq_emod_of_nonneg g3]at h;simpa[eX]using h)]
    ·refine Bel.bel (B:=_) ?_;exact dM
   ·go_ret
    rename_i h;refine⟨b9 ?_,?_⟩
    ·rw[hc.out,aj (by rw[Int.tmod_eq_emod_of_nonneg g3]at h;simpa[eX]using h)]
    ·refine Bel.bel (B:=_) ?_;exact dM
  ·have e2:dH a 0 65535=false:=by simp[dH];omega
   have hc:=Xj (Pz (a:=a) (l:=l) aa);clear hl ha;go_enter func223,ntmps223
   go_wp2_with (first|(go_at_call 55;refine(gZ _ _ _ _).mono ?_;rintro e w' ⟨rfl,rfl⟩))
   go_ret
   refine⟨b9 hc.out.symm,?_⟩;refine Bel.bel (B:=_) ?_;exact dM
 ·have e1:dH l 0 16=false:=by simp[dH];omega
  have hc:=Xj (Pz (a:=a) (l:=l) aa);clear hl;go_enter func223,ntmps223
  go_wp2_with (first|(go_at_call 55;refine(gZ _ _ _ _).mono ?_;rintro e w' ⟨rfl,rfl⟩))
  go_ret
  refine⟨b9 hc.out.symm,?_⟩;refine Bel.bel (B:=_) ?_;exact dM
def md (a l:Int):Int:=a+eX l - 1
def bF (a l:Int):Bool:=chk a l==0
def me (a l x:Int):Bool:=bF a l&&dH x a (md a l)
def Ba (a l b m:Int):Bool:=bF a l&&bF b m&&me b m a&&me b m (md a l)
def pq (a l b m:Int):Bool:=bF a l&&bF b m&&decide (a<=md b m)&&decide (b<=md a l)
theorem d5 {a l:Int}(h:bF a l=true):0<=l/\l<=16/\0<=a/\a<=65535/\a % eX l=0:=by
 have h0:chk a l=0:=by simpa[bF]using h
 unfold chk at h0;split at h0
 ·omega
 ·rename_i h1;split at h0
  ·rename_i h2;exact⟨by omega,by omega,by omega,by omega,h2⟩
  ·omega
theorem sq (a l:Int)(w:World):
 Calls prog 134 #[.agg #[.int .i64 a,.int .i64 l]] w fun e w'=>e= .returned (.bool (bF a l))/\cM w w':=by
 go_enter func134,ntmps134
 go_wp2_with fail
 refine(xo a l _).mono ?_;rintro e w1 ⟨rfl,ci⟩;obtain⟨cm,cq⟩:=aV ci;have ct:=bv ci;(try simp only[Xs,ae,Xw,Xu]at cm cq ct)
 go_wp2_with fail
 go_ret
 refine⟨dw rfl,Bel.bel (B:=_) ?_⟩;exact dM
theorem tO (a l:Int)(w:World)(h:bF a l=true):
 Calls prog 136 #[.agg #[.int .i64 a,.int .i64 l]] w fun e w'=>e= .returned (.int .i64 (md a l))/\cM w w':=by
 obtain⟨g1,g2,g3,g4,-⟩:=d5 h;obtain⟨z1,z2⟩:=fH g1;clear h;go_enter func136,ntmps136
 go_wp2_with fail
 refine Oq ?_;intro w1 ci;obtain⟨cm,cq⟩:=aV ci;have ct:=bv ci;(try simp only[Xs,ae,Xw,Xu]at cm cq ct)
 go_wp2_with fail
 go_ret
 refine⟨b9 (by simp only[IntKind.wrap_i64];unfold md;omega),Bel.bel (B:=_) ?_⟩;exact dM
theorem wF (a l x:Int)(w:World):
 Calls prog 224 #[.agg #[.int .i64 a,.int .i64 l],.int .i64 x] w fun e w'=>e= .returned (.bool (me a l x))/\cM w w':=by
 by_cases h:bF a l=true
 ·have hv:me a l x=dH x a (md a l):=by simp[me,h]
  rw[hv];go_enter func224,ntmps224
  go_wp2_with fail
  refine Oq ?_;intro w1 ci;obtain⟨cm,cq⟩:=aV ci;have ct:=bv ci;(try simp only[Xs,ae,Xw,Xu]at cm cq ct)
  go_wp2_with fail
  go_ret
  refine⟨dw rfl,Bel.bel (B:=_) ?_⟩;exact dM
 ·have h:=(Bool.not_eq_true _).mp h;have hv:me a l x=false:=by simp[me,h]
  rw[hv];go_enter func224,ntmps224
  go_wp2_with fail
  refine Oq ?_;intro w1 ci;obtain⟨cm,cq⟩:=aV ci;have ct:=bv ci;(try simp only[Xs,ae,Xw,Xu]at cm cq ct)
  go_wp2_with fail
  go_ret
  refine⟨dw rfl,Bel.bel (B:=_) ?_⟩;exact dM
theorem tP (a l b m:Int)(w:World):
 Calls prog 135 #[.agg #[.int .i64 a,.int .i64 l],.agg #[.int .i64 b,.int .i64 m]] w fun e w'=>e= .returned (.bool (Ba a l b m))/\cM w w':=by
 cases hA:bF a l
 case false=>
  go_enter func135,ntmps135
  go_wp2_with fail
  refine Oq ?_;intro w1 ci;obtain⟨cm,cq⟩:=aV ci;have ct:=bv ci;(try simp only[Xs,ae,Xw,Xu]at cm cq ct)
  go_wp2_with fail
  go_ret
  refine⟨dw (by simp[Ba,hA]),Bel.bel (B:=_) ?_⟩;exact dM
 case true=>
  cases hB:bF b m
  case false=>
   go_enter func135,ntmps135
   go_wp2_with fail
   refine Oq ?_;intro w1 ci;obtain⟨cm,cq⟩:=aV ci;have ct:=bv ci;(try simp only[Xs,ae,Xw,Xu]at cm cq ct)
   go_wp2_with fail
   go_ret
   refine⟨dw (by simp[Ba,hA,hB]),Bel.bel (B:=_) ?_⟩;exact dM
  case true=>
   cases hC:me b m a
   case false=>
    go_enter func135,ntmps135
    go_wp2_with fail
    refine Oq ?_;intro w1 ci;obtain⟨cm,cq⟩:=aV ci;have ct:=bv ci;(try simp only[Xs,ae,Xw,Xu]at cm cq ct)
    go_wp2_with fail
    go_ret
    refine⟨dw (by simp[Ba,hA,hB,hC]),Bel.bel (B:=_) ?_⟩;exact dM
   case true=>
    go_enter func135,ntmps135
    go_wp2_with fail
    refine Oq ?_;intro w1 ci;obtain⟨cm,cq⟩:=aV ci;have ct:=bv ci;(try simp only[Xs,ae,Xw,Xu]at cm cq ct)
    go_wp2_with fail
    go_ret
    refine⟨dw (by simp[Ba,hA,hB,hC]),Bel.bel (B:=_) ?_⟩;exact dM
theorem tQ (a l b m:Int)(w:World):
 Calls prog 72 #[.agg #[.int .i64 a,.int .i64 l],.agg #[.int .i64 b,.int .i64 m]] w fun e w'=>e= .returned (.bool (pq a l b m))/\cM w w':=by
 cases hA:bF a l
 case false=>
  go_enter func72,ntmps72
  go_wp2_with fail
  refine Oq ?_;intro w1 ci;obtain⟨cm,cq⟩:=aV ci;have ct:=bv ci;(try simp only[Xs,ae,Xw,Xu]at cm cq ct)
  go_wp2_with fail
  go_ret
  refine⟨dw (by simp[pq,hA]),Bel.bel (B:=_) ?_⟩;exact dM
 case true=>
  cases hB:bF b m
  case false=>
   go_enter func72,ntmps72
   go_wp2_with fail
   refine Oq ?_;intro w1 ci;obtain⟨cm,cq⟩:=aV ci;have ct:=bv ci;(try simp only[Xs,ae,Xw,Xu]at cm cq ct)
   go_wp2_with fail
   go_ret
   refine⟨dw (by simp[pq,hA,hB]),Bel.bel (B:=_) ?_⟩;exact dM
  case true=>
   cases hC:decide (a<=md b m)
   case false=>
    go_enter func72,ntmps72
    go_wp2_with fail
    refine Oq ?_;intro w1 ci;obtain⟨cm,cq⟩:=aV ci;have ct:=bv ci;(try simp only[Xs,ae,Xw,Xu]at cm cq ct)
    go_wp2_with fail
    go_ret
    refine⟨dw (by simp[pq,hA,hB,hC]),Bel.bel (B:=_) ?_⟩;exact dM
   case true=>
    go_enter func72,ntmps72
    go_wp2_with fail
    refine Oq ?_;intro w1 ci;obtain⟨cm,cq⟩:=aV ci;have ct:=bv ci;(try simp only[Xs,ae,Xw,Xu]at cm cq ct)
    go_wp2_with fail
    go_ret
    refine⟨dw (by simp[pq,hA,hB,hC]),Bel.bel (B:=_) ?_⟩;exact dM
end
theorem a6o {p:Prop}(h:p:=by
 exact⟨b,0,_,rfl,trivial,rfl,rfl,iD h0 (iD h1 qa)⟩):p:=h
section
open Go.Proofs
theorem iD {w:World}{b off:Nat}{c:Value}{cs:List Value}(h:w.cell? ⟨b,off,none⟩=some c)(hs:oI w b (off+1) cs):oI w b off (c::cs):=by
 intro i hi;match i with
 |0=>simpa using h
 |i+1=>have:=hs i (by simpa using hi);simpa[Zh,Nat.add_comm 1 i]using this
theorem qa {w:World}{b off:Nat}:oI w b off []:=fun i hi=>absurd hi ah
theorem vq {w:World}{b:Nat}(a l:Int)(v:Bool)(hv:bF a l=v)(h0:w.cell? ⟨b,0,none⟩=some (.int .i64 a))(h1:w.cell? ⟨b,1,none⟩=some (.int .i64 l)):
 Calls prog 252 #[.slice (some ⟨b,0,none⟩) 1 1] w fun e w'=>e= .returned (.bool v)/\cM w w':=by
 have h:Sl (fun _=>True) w 2 Pfx.R (some ⟨b,0,none⟩) 1 [(⟨a,l⟩:Pfx)]:=by
  refine⟨by simp,by omega,fun i hi=>?_⟩;match i with
  |0=>exact a6o
 refine(B6 h).mono fun e w' hh=>⟨hh.1.trans (dw ?_),hh.2⟩;rw[<-hv];simp[bF,Pfx.chk]
theorem IN {w:World}{b:Nat}(a l c m:Int)(v:Bool)(hv:(bF a l&&bF c m)=v)(h0:w.cell? ⟨b,0,none⟩=some (.int .i64 a))(h1:w.cell? ⟨b,1,none⟩=some (.int .i64 l))
 (h2:w.cell? ⟨b,2,none⟩=some (.int .i64 c)) (h3:w.cell? ⟨b,3,none⟩=some (.int .i64 m)):
 Calls prog 252 #[.slice (some ⟨b,0,none⟩) 2 2] w fun e w'=>e= .returned (.bool v)/\cM w w':=by
 have h:Sl (fun _=>True) w 2 Pfx.R (some ⟨b,0,none⟩) 2 [(⟨a,l⟩:Pfx),⟨c,m⟩]:=by
  refine⟨by simp,by omega,fun i hi=>?_⟩;match i with
  |0=>exact a6o
  |1=>exact⟨b,0,_,rfl,trivial,rfl,rfl,iD h2 (iD h3 qa)⟩
 refine(B6 h).mono fun e w' hh=>⟨hh.1.trans (dw ?_),hh.2⟩;rw[<-hv];simp[bF,Pfx.chk]
theorem MQ (x y:BitVec 64):(x&&& ~~~y).toNat=x.toNat - (x&&& y).toNat:=by
 have h1:(x&&& ~~~y)&&& (x&&& y)=0#64:=by
  ext i hi
  simp only[BitVec.getElem_and,BitVec.getElem_not,BitVec.getElem_zero];cases x[i]<;>cases y[i]<;>rfl
 have h2:(x&&& ~~~y)+(x&&& y)=x:=by
  rw[BitVec.add_eq_or_of_and_eq_zero _ _ h1];ext i hi
  simp only[BitVec.getElem_and,BitVec.getElem_not,BitVec.getElem_or];cases x[i]<;>cases y[i]<;>rfl
 have h4:=BitVec.toNat_add_of_and_eq_zero h1;rw[h2]at h4;omega
theorem yV (a l:Int)(h0:0<=a)(h1:a<=65535)(h2:0<=l):bits .andNot .i64 a (IE l)=a - a % eX l:=by
 obtain⟨n,rfl⟩:=ZN h0;have hm:=sn l h2;rw[DG]at hm ⊢;show IntKind.i64.wrap ((BitVec.ofInt 64 (n:Int)&&& ~~~ BitVec.ofInt 64 _).toNat:Int)=_;rw[MQ,BitVec.toNat_and,lS n aa,lS _ aa,Nat.and_two_pow_sub_one_eq_mod,IntKind.wrap_i64];have:=Nat.mod_le n (2 ^ (16 - l).toNat);unfold eX;have h9:((n:Int) % 2 ^ (16 - l).toNat)=((n % 2 ^ (16 - l).toNat:Nat):Int):=ah;omega
def wG (a l:Int):Int:=if bF a l=true then eX l else 0
theorem F5 (a l:Int)(w:World):
 Calls prog 203 #[.agg #[.int .i64 a,.int .i64 l]] w fun e w'=>e= .returned (.int .i64 (wG a l))/\cM w w':=by
 cases hA:bF a l
 case false=>
  have hs:wG a l=0:=by simp[wG,hA]
  rw[hs];have hv:=Xj hA;go_enter func203,ntmps203
  go_wp2_with (first|(go_at_call 252;refine(vq a l _ hv.out ?_ ?_).mono ?_;go_simp;go_simp;rintro e w1 ⟨rfl,ci⟩))
  go_ret
  refine⟨rfl,Bel.bel (B:=_) ?_⟩;exact dM
 case true=>
  have hs:wG a l=IE l+1:=by simp[wG,hA,IE,eX]
  rw[hs];have hv:=Xj hA;obtain⟨g1,g2,g3,g4,-⟩:=d5 hA;obtain⟨z1,z2⟩:=sn l g1;go_enter func203,ntmps203
  go_wp2_with (first|(go_at_call 252;refine(vq a l _ hv.out ?_ ?_).mono ?_;go_simp;go_simp;rintro e w1 ⟨rfl,ci⟩;obtain⟨cm,cq⟩:=aV ci;simp only[Xs]at cm cq)|(go_at_call 235;refine(p6 _ _ g1 g2).mono ?_;rintro e w2 ⟨rfl,rfl⟩))
  go_ret
  refine⟨rfl,Bel.bel (B:=_) ?_⟩;exact dM
end
theorem LE {p:Prop}(h:p:=by
 rename_i hw;simp only[hw,if_true]at h;rcases h with h|⟨w7,HK⟩
 case inr=>exact .inr ⟨by unfold Oper.asks at*;rw[execOp_put oj VZ a oi.dst v h1]at w7;exact w7,HK⟩
 refine .inl ?_;unfold Oper.wp at*;rw[execOp_put oj VZ a oi.dst v h1]at h;generalize (execOp a.eval oj).run P w=r at*;cases r with
 |ok n w'=>
  cases n<;>simp only[Oper.upon]at h ⊢
  case value u=>exact⟨keep a hy u,by rw[<-Act.put_comm a v u h2];exact h⟩
  case skip=>exact⟨keep a hy _,by rw[<-Act.put_comm a v undef h2];exact h⟩
  case defer d=>
   refine⟨keep _ (keepD d) _,?_⟩;rw[<-Act.put_comm _ v undef h2,<-Act.put_defers];exact h
  case enter f args=>
   refine Calls.mono h fun e w'' he=>?_;cases e with
   |returned u=>exact⟨keep a hy u,by rw[<-Act.put_comm a v u h2];exact he⟩
   |panicked c=>exact hQ _ _ _ he
   |outgrown=>exact he
  case row row args=>exact Rows.mono h fun u w'' he=>⟨keep a hy u,by rw[<-Act.put_comm a v u h2];exact he⟩
 |halt x w'=>
  cases x<;>simp only[Oper.upon]at h ⊢
  case panic u=>exact hQ _ _ _ h):p:=h
theorem a4e {p:Prop}(h:p:=by
 rename_i hw;simp only[hw]at h;exact⟨keep a hy _,by rw[<-Act.put_comm a v undef h2];exact h⟩):p:=h
theorem a5p {p:Prop}(h:p:=by
 have:=ready_mono hj lf;rw[H.1]at this;cases this):p:=h
theorem a5K {p:Prop}(h:p:=by
 subst lf;exact hy.wpOp hi hw fun w' hw'=>⟨hw',H.world (al hw hw')⟩):p:=h
theorem a5R {p:Prop}(h:p:=by
 simp[h']at h0 h1;rw[h0]at h1;cases h1):p:=h
theorem a5S {p:Prop}(h:p:=by
 rw[getD_set_ne true Ez]at V0;exact V0):p:=h
theorem a6p {p:Prop}(h:p:=by
 simp only[Ey,YB,if_false];exact h w (Below.refl _ _)):p:=h
section
variable {P:Program}{ops:Array Oper}{Q:Exit->Act->World->Prop}
def GO (P:Program)(ops:Array Oper)(Q:Exit->Act->World->Prop):Nat->Array Bool->Act->World->Prop
 |0,listed,a,W=>Region.ready .any ops listed=[]/\∀w,cM W w->Q .normal a w
 |fuel+1,listed,a,W=>∀w,cM W w->(Region.ready .any ops listed=[]->Q .normal a w)/\
  ∀i∈Region.ready .any ops listed,wpOp P ops Q i (fun a' w'=>cM w w'/\GO P ops Q fuel (listed.setIfInBounds i true) a' w') a w
theorem GO.world:∀{fuel:Nat}{listed:Array Bool}{a:Act}{W W':World},cM W W'->GO P ops Q fuel listed a W->GO P ops Q fuel listed a W'
 |0,_,_,_,_,hx,h=>⟨h.1,fun w hw=>h.2 w (al hx hw)⟩
 |_+1,_,_,_,_,hx,h=>fun w hw=>h w (al hx hw)
theorem GO.any:∀{fuel:Nat}{listed:Array Bool}{a:Act}{W:World},GO P ops Q fuel listed a W->wpAny P .any ops Q fuel listed a W
 |0,_,_,_,h=>⟨h.1,h.2 _ (Below.refl _ _)⟩
 |_+1,_,_,W,h=>⟨(h W (Below.refl _ _)).1,fun i hi=>wpOp_mono (fun _ _ h'=>GO.any h'.2) ((h W (Below.refl _ _)).2 i hi)⟩
def QY (P:Program)(ops:Array Oper)(W:World)(o:Oper)(v:Value)(a:Act):Prop:=
 (Region.wanted o (yielded ops a.tmps)=true/\∀w,cM W w->o.quietAt P a (cM w) w v)\/
 (Region.wanted o (yielded ops a.tmps)=false/\v=undef)
theorem QY.world {W W':World}{o:Oper}{v:Value}{a:Act}(hx:cM W W')(h:QY P ops W o v a):QY P ops W' o v a:=
 h.imp (fun⟨h1,h2⟩=>⟨h1,fun w hw=>h2 w (al hx hw)⟩) id
theorem QY.of_same {W:World}{o:Oper}{v:Value}{a a':Act}(hy:QY P ops W o v a)(he:execOp a'.eval o=execOp a.eval o)
 (hw:Region.wanted o (yielded ops a'.tmps)=Region.wanted o (yielded ops a.tmps)):QY P ops W o v a':=by
 unfold QY Oper.quietAt at*;rw[he,hw];exact hy
theorem QY.wpOp {W:World}{i:Nat}{o:Oper}{v:Value}{a:Act}(hi:ops[i]? =some o)(hy:QY P ops W o v a){K:Act->World->Prop}{w:World}(hw:cM W w)(h:∀w',cM w w'->K (a.put o.dst v) w'):wpOp P ops Q i K a w:=by
 unfold Go.wpOp;simp only[hi];rcases hy with⟨Ey,hv⟩|⟨Ey,rfl⟩
 ·simp only[Ey,if_true];left;exact Oper.wp_of_quiet (C:=cM w) (K:=fun a'=>a'=a.put o.dst v) (Below.refl _ _) (fun a' w' hw' ha=>ha ▸ h w' hw') ⟨v,fun w'' hw''=>by
   have:=hv w'' (al hw hw'');unfold Oper.quietAt at*;generalize (execOp a.eval o).run P w''=r at*;cases r with
   |ok n u=>cases n<;>simp only[Oper.quietUpon]at this ⊢<;>first|exact this|exact⟨this.1,this.2.mono fun _ _ ⟨e1,e2⟩=>⟨e1,al hw'' e2⟩⟩
   |halt x u=>simp only[Oper.quietUpon]at this,rfl⟩
 ·exact a6p
theorem MR {W:World}{j:Nat}{oi oj:Oper}{v:Value}(hj:ops[j]? =some oj)(LC:oi.apart ops oj=true)
 (H5:∀cs b,oi.op≠ .select cs b) (VZ:∀cs b,oj.op≠ .select cs b)
 (hQ:∀c a w,Q (.panic c) (a.put oi.dst v) w->Q (.panic c) a w) {K:Act->World->Prop}{a:Act}{w:World}
 (hy:QY P ops W oi v a) (h:wpOp P ops Q j K (a.put oi.dst v) w):
 wpOp P ops Q j (fun a' w'=>QY P ops W oi v a'/\K (a'.put oi.dst v) w') a w:=by
 obtain⟨h1,h2,h3⟩:=Oper.apart_spec LC;have keep:∀(a:Act),QY P ops W oi v a->∀u,QY P ops W oi v (a.put oj.dst u):=fun a hy u=>
  hy.of_same (execOp_put oi H5 a oj.dst u h3) (wanted_put oi a oj.dst u h3)
 have keepD:∀d,QY P ops W oi v {a with defers:=d::a.defers}:=fun d=>hy.of_same rfl rfl;unfold wpOp at*;simp only[hj]at*;rw[wanted_put oj a oi.dst v h1]at h;split
 ·exact LE
 ·exact a4e
theorem PN {i:Nat}{oi:Oper}{v:Value}(hi:ops[i]? =some oi)(HL:∀(j:Nat) (o:Oper) cs b,ops[j]? =some o->o.op≠ .select cs b)
 (hQ:∀c a w,Q (.panic c) (a.put oi.dst v) w->Q (.panic c) a w):
 ∀(fuel:Nat) (listed:Array Bool) (a:Act) (W:World),
  (∀j oj,ops[j]? =some oj->j≠i->listed.getD j true=false->(∀e∈oj.after,Region.binds .any e=true->e.on≠i)->oi.apart ops oj=true)->
  i∈Region.ready .any ops listed->QY P ops W oi v a->
  GO P ops Q fuel (listed.setIfInBounds i true) (a.put oi.dst v) W->GO P ops Q (fuel+1) listed a W:=by
 intro fuel;induction fuel with
 |zero=>
  intro listed a W _ hr hy H w hw;refine⟨fun h=>(by rw[h]at hr;cases hr),fun j hj=>?_⟩;by_cases lf:j=i
  ·exact a5K
  ·exact a5p
 |succ fuel ih=>
  intro listed a W w8 hr hy H w hw;refine⟨fun h=>(by rw[h]at hr;cases hr),fun j hj=>?_⟩;by_cases lf:j=i
  ·exact a5K
  ·have h1:=(H w hw).2 j (ready_mono hj lf);obtain⟨HM,oj,Sb,bo⟩:=mem_ready.1 hj;have Sc:∀e∈oj.after,Region.binds .any e=true->e.on≠i:=fun e he hb heq=>by
    have h1:=bo e he hb;have h0:=(mem_ready.1 hr).1;rw[heq]at h1;rcases XM i listed.size with h'|h'
    ·exact a5R
    ·simp[Yo h']at h1
   have h2:=MR Sb (w8 j oj Sb lf HM Sc) (fun cs b=>HL i oi cs b hi) (fun cs b=>HL j oj cs b Sb) hQ (hy.world hw) h1;have AE:∀k ok,ops[k]? =some ok->k≠i->(listed.setIfInBounds j true).getD k true=false->
    (∀e∈ok.after,Region.binds .any e=true->e.on≠i)->oi.apart ops ok=true:=fun k ok hk Sd V0 cg=>by
    refine w8 k ok hk Sd ?_ cg;by_cases Ez:j=k
    ·subst Ez;exact HM
    ·exact a5S
   refine wpOp_mono (fun a' w' h3=>⟨h3.2.1,ih (listed.setIfInBounds j true) a' w' AE (ready_mono hr (Ne.symm lf)) (h3.1.world h3.2.1) ?_⟩) h2;rw[Array.setIfInBounds_comm _ _ lf];exact h3.2.2
def kQ (P:Program)(ops:Array Oper)(Q:Exit->Act->World->Prop):List Oper->Nat->Array Bool->Act->World->Prop
 |[],_,_,a,W=>∀w,cM W w->Q .normal a w
 |o::rest,k,listed,a,W=>
  (∃v,QY P ops W o v a/\kQ P ops Q rest (k+1) (listed.setIfInBounds k true) (a.put o.dst v) W)\/
  (Region.ready .any ops listed=[k]/\Region.wanted o (yielded ops a.tmps)=true/\∀w,cM W w->o.wp P a w (fun a' w'=>cM w w'/\kQ P ops Q rest (k+1) (listed.setIfInBounds k true) a' w') Q)
theorem vr (hs:Region.noSelect ops=true)(hQ:∀c a d v w,Q (.panic c) (a.put d v) w->Q (.panic c) a w):∀(l:List Oper) (k:Nat) (listed:Array Bool) (a:Act) (W:World),(∀j,l[j]? =ops[k+j]?)->
 Region.lexFrom .any ops l.length k listed=true->kQ P ops Q l k listed a W->GO P ops Q l.length listed a W
 |[],_,_,_,_,_,hB,h=>⟨by simpa[Region.lexFrom]using hB,h⟩
 |o::l,k,listed,a,W,hl,hB,h=>by
  have h0:ops[k]? =some o:=by simpa using (hl 0).symm
  simp only[Xx,Region.lexFrom,Xt]at hB;obtain⟨⟨hr,hf⟩,hB'⟩:=hB;have hl':∀j,l[j]? =ops[k+1+j]? :=fun j=>by have:=hl (j+1);simpa[Zh,Nat.add_comm 1 j]using this
  rcases h with⟨v,hy,hK⟩|⟨dL,Ey,hK⟩
  ·exact PN h0 (Region.noSelect_spec hs) (fun c a w=>hQ c a _ _ w) l.length listed a W (Region.free_spec h0 hf) (by simpa using hr) hy (vr hs hQ l (k+1) _ _ _ hl' hB' hK)
  ·intro w hw;refine⟨fun h=>by rw[dL]at h;simp at h,fun i hi=>?_⟩;rw[dL]at hi;obtain rfl:i=k:=by simpa using hi
   unfold wpOp;simp only[h0,Ey,if_true];left;exact Oper.wp_mono (fun a' w' h'=>⟨h'.1,vr hs hQ l (i+1) _ _ _ hl' hB' h'.2⟩) (hK w hw)
theorem sr {id:Nat}{a:Act}{w:World}{l:List Oper}(hm:P.follows .mixedOrders=true)(hB:Region.lexB .any l.toArray=true)(hQ:∀c a d v w,Q (.panic c) (a.put d v) w->Q (.panic c) a w)
 (h:kQ P l.toArray Q l 0 (Za l.length false) a w):(Code.region id l.toArray true).wp P Q a w:=by
 simp only[Region.lexB,Xt]at hB;refine wp_region_any hm ?_;have h2:=vr hB.1 hQ l 0 (Za l.length false) a w ah (by simpa using hB.2) h;have h3:=(h2.world ((Below.refl _ _).drew:cM w w.drew)).any;simpa using h3
section
variable {o:Oper}{rest:List Oper}{k:Nat}{listed:Array Bool}{a:Act}{W:World}
theorem dY (h:∀w,cM W w->Q .normal a w):kQ P ops Q [] k listed a W:=h
theorem yW (hw:Region.wanted o (yielded ops a.tmps)=false)(hn:kQ P ops Q rest (k+1) (listed.setIfInBounds k true) (a.put o.dst undef) W):kQ P ops Q (o::rest) k listed a W:=
 .inl ⟨undef,.inr ⟨hw,rfl⟩,hn⟩
theorem fu {j d:Nat}{v:Value}(hg:o.guard=some (j,true))(hd:(ops[j]?).bind (·.dst)=some d)(hv:a.tmps.toList[d]? =some v)(hb:v= .bool false)(hn:kQ P ops Q rest (k+1) (listed.setIfInBounds k true) (a.put o.dst undef) W):kQ P ops Q (o::rest) k listed a W:=
 yW (by simp[Region.wanted,hg,gY hd hv hb]) hn
theorem fw {j d:Nat}{v:Value}(hg:o.guard=some (j,false))(hd:(ops[j]?).bind (·.dst)=some d)(hv:a.tmps.toList[d]? =some v)(hb:v= .bool true)(hn:kQ P ops Q rest (k+1) (listed.setIfInBounds k true) (a.put o.dst undef) W):kQ P ops Q (o::rest) k listed a W:=
 yW (by simp[Region.wanted,hg,gY hd hv hb]) hn
theorem fy {j d:Nat}{v:Value}{b:Bool}(hg:o.guard=some (j,b))(hd:(ops[j]?).bind (·.dst)=some d)(hv:a.tmps.toList[d]? =some v)(hb:v=undef)(hn:kQ P ops Q rest (k+1) (listed.setIfInBounds k true) (a.put o.dst undef) W):kQ P ops Q (o::rest) k listed a W:=
 yW (by simp[Region.wanted,hg,oJ hd hv hb]) hn
theorem iU {v:Value}(hw:Region.wanted o (yielded ops a.tmps)=true)(h:∀w,cM W w->∀R:Value->Prop,R v->qUp P w w R ((execOp a.eval o).run P w))
 (hn:kQ P ops Q rest (k+1) (listed.setIfInBounds k true) (a.put o.dst v) W):kQ P ops Q (o::rest) k listed a W:=
 .inl ⟨v,.inl ⟨hw,fun w hw=>uI (h w hw)⟩,hn⟩
theorem kn (hr:Region.ready .any ops listed=[k])(hw:Region.wanted o (yielded ops a.tmps)=true)
 (h:∀w,cM W w->∀K:Act->World->Prop,(∀a' w',cM w w'->kQ P ops Q rest (k+1) (listed.setIfInBounds k true) a' w'->K a' w')->o.wp P a w K Q):kQ P ops Q (o::rest) k listed a W:=
 .inr ⟨hr,hw,fun w hw=>h w hw _ fun _ _ h1 h2=>⟨h1,h2⟩⟩
end
theorem qb {f:FuncId}{args:Array Value}{w:World}{R:Value->Prop}{v:Value}(h:Calls P f args w fun e w'=>e= .returned v/\cM w w')(hR:R v):Calls P f args w (ER w R):=
 h.mono fun _ _ ⟨he,hx⟩=>⟨⟨v,he,hR⟩,hx⟩
theorem ss {f:FuncId}{args:Array Value}{w:World}{R:Value->Prop}{v:Value}(h:Calls P f args w fun e w'=>e= .returned v/\w=w')(hR:R v):Calls P f args w (ER w R):=
 h.mono fun _ _ ⟨he,hx⟩=>⟨⟨v,he,hR⟩,hx ▸ Below.refl _ _⟩
end
structure Hm (Q:Prop):Prop where
 out:Q
theorem SN {Q P:Prop}(q:Q)(h:Hm Q->P:=by
 intro q;refine sr aJ aJ (fun _ _ d _ _ h=>by cases d<;>exact h) ?_;repeat(first|((first|refine fu rfl rfl rfl cG ?_|refine fw rfl rfl rfl cG ?_|refine fy rfl rfl rfl cG ?_);simp only[Act.put,XO,XQ,XZ])|(apply iU;(first|exact dG rfl|exact ei rfl rfl rfl cG);intro wq iP R hR;((have mX:=(aV iP).1;(try simp only[Xs,ae,Xw,Xu]at mX));go_simp;first|exact hR|(fail));simp only[Act.put,XO,XQ,XZ]))
 exact q.out):P:=h ⟨q⟩
section
open Go.Proofs
def qc (a l b m:Int):Bool:=bF a l&&bF b m&&decide (m<=l)&&(a - a % eX m==b)
theorem mf (a l b m:Int)(w:World):
 Calls prog 189 #[.agg #[.int .i64 a,.int .i64 l],.agg #[.int .i64 b,.int .i64 m]] w fun e w'=>e= .returned (.bool (qc a l b m))/\cM w w':=by
 cases hA:(bF a l&&bF b m)
 case false=>
  have hs:qc a l b m=false:=by simp[qc,hA]
  rw[hs];have hv:=Xj hA;clear hA hs;go_enter func189,ntmps189
  go_wp2_with fail
  refine SN ?_;refine kn aJ (by first|exact dG rfl|exact ei rfl rfl rfl cG) (fun w1 ci K hK=>?_);obtain⟨cm,cq⟩:=aV ci;have ct:=bv ci;(try simp only[Xs,ae,Xw,Xu]at cm cq ct)
  (try have l0w1:w.heap.size<=w1.heap.size:=by omega)
  (try have l1w1:w.heap.size < w1.heap.size:=by omega)
  (try have l2w1:w.heap.size+1 < w1.heap.size:=by omega)
  go_simp
  refine hK _ _ (Bel.bel (B:=_) ?_) ?_
  ·exact dM
  clear hK K;repeat(first|((first|refine fu rfl rfl rfl cG ?_|refine fw rfl rfl rfl cG ?_|refine fy rfl rfl rfl cG ?_);simp only[Act.put,XO,XQ,XZ])|(apply iU;(first|exact dG rfl|exact ei rfl rfl rfl cG);intro wq iP R hR;((have mX:=(aV iP).1;(try simp only[Xs,ae,Xw,Xu]at mX));go_simp;first|exact hR|((go_at_call 252;refine qb (IN a l b m _ hv.out ?_ ?_ ?_ ?_) hR;go_simp;go_simp;go_simp;go_simp)));simp only[Act.put,XO,XQ,XZ]))
  refine dY ?_;intro w2 cj;obtain⟨dB,dr⟩:=aV cj;have dC:=bv cj;(try simp only[Xs,ae,Xw,Xu]at dB dr dC)
  go_wp2_with fail
  go_ret
  refine⟨rfl,Bel.bel (B:=_) ?_⟩;exact dM
 case true=>
  have hA':=hA;simp only[Xt]at hA';obtain⟨g1,g2,g3,g4,-⟩:=d5 hA'.1;obtain⟨k1,k2,k3,k4,-⟩:=d5 hA'.2;obtain⟨z1,z2⟩:=sn m k1;have hv:=Xj hA;by_cases hm:m<=l
  ·have hs:qc a l b m=(a - a % eX m==b):=by simp[qc,hA,hm]
   rw[hs];have han:=yV a m g3 g4 k1;have hmI:decide (m<=l)=true:=by simp[hm]
   clear hA hA' hs hm;cases hE:(a - a % eX m==b);all_goals
    go_enter func189,ntmps189
    go_wp2_with fail
    refine SN ?_;refine kn aJ (by first|exact dG rfl|exact ei rfl rfl rfl cG) (fun w1 ci K hK=>?_);obtain⟨cm,cq⟩:=aV ci;have ct:=bv ci;(try simp only[Xs,ae,Xw,Xu]at cm cq ct)
    (try have l0w1:w.heap.size<=w1.heap.size:=by omega)
    (try have l1w1:w.heap.size < w1.heap.size:=by omega)
    (try have l2w1:w.heap.size+1 < w1.heap.size:=by omega)
    go_simp
    refine hK _ _ (Bel.bel (B:=_) ?_) ?_
    ·exact dM
    clear hK K;repeat(first|((first|refine fu rfl rfl rfl cG ?_|refine fw rfl rfl rfl cG ?_|refine fy rfl rfl rfl cG ?_);simp only[Act.put,XO,XQ,XZ])|(apply iU;(first|exact dG rfl|exact ei rfl rfl rfl cG);intro wq iP R hR;((have mX:=(aV iP).1;(try simp only[Xs,ae,Xw,Xu]at mX));go_simp;first|exact hR|(first|(go_at_call 252;refine qb (IN a l b m _ hv.out ?_ ?_ ?_ ?_) hR;go_simp;go_simp;go_simp;go_simp)|(go_at_call 235;exact ss (p6 _ _ k1 k2) hR)));simp only[Act.put,XO,XQ,XZ]))
    refine dY ?_;intro w2 cj;obtain⟨dB,dr⟩:=aV cj;have dC:=bv cj;(try simp only[Xs,ae,Xw,Xu]at dB dr dC)
    go_wp2_with fail
    go_ret
    refine⟨rfl,Bel.bel (B:=_) ?_⟩;exact dM
  ·have hs:qc a l b m=false:=by simp[qc,hA,hm]
   rw[hs];have hmI:decide (m<=l)=false:=by simp[hm]
   clear hA hA' hs hm;go_enter func189,ntmps189
   go_wp2_with fail
   refine SN ?_;refine kn aJ (by first|exact dG rfl|exact ei rfl rfl rfl cG) (fun w1 ci K hK=>?_);obtain⟨cm,cq⟩:=aV ci;have ct:=bv ci;(try simp only[Xs,ae,Xw,Xu]at cm cq ct)
   (try have l0w1:w.heap.size<=w1.heap.size:=by omega)
   (try have l1w1:w.heap.size < w1.heap.size:=by omega)
   (try have l2w1:w.heap.size+1 < w1.heap.size:=by omega)
   go_simp
   refine hK _ _ (Bel.bel (B:=_) ?_) ?_
   ·exact dM
   clear hK K;repeat(first|((first|refine fu rfl rfl rfl cG ?_|refine fw rfl rfl rfl cG ?_|refine fy rfl rfl rfl cG ?_);simp only[Act.put,XO,XQ,XZ])|(apply iU;(first|exact dG rfl|exact ei rfl rfl rfl cG);intro wq iP R hR;((have mX:=(aV iP).1;(try simp only[Xs,ae,Xw,Xu]at mX));go_simp;first|exact hR|((go_at_call 252;refine qb (IN a l b m _ hv.out ?_ ?_ ?_ ?_) hR;go_simp;go_simp;go_simp;go_simp)));simp only[Act.put,XO,XQ,XZ]))
   refine dY ?_;intro w2 cj;obtain⟨dB,dr⟩:=aV cj;have dC:=bv cj;(try simp only[Xs,ae,Xw,Xu]at dB dr dC)
   go_wp2_with fail
   go_ret
   refine⟨rfl,Bel.bel (B:=_) ?_⟩;exact dM
end
section
open Go.Proofs
def nc (a l x:Int):Bool:=bF a l&&(decide (0<=x)&&(decide (x<=65535)&&(x - x % eX l==a)))
theorem MS (a l x:Int)(w:World):
 Calls prog 310 #[.agg #[.int .i64 a,.int .i64 l],.int .i64 x] w fun e w'=>e= .returned (.bool (nc a l x))/\cM w w':=by
 cases hA:bF a l
 case false=>
  have hs:nc a l x=false:=by simp[nc,hA]
  rw[hs];have hv:=Xj hA;clear hA hs;go_enter func310,ntmps310
  go_wp2_with fail
  refine SN ?_;refine kn aJ (by first|exact dG rfl|exact ei rfl rfl rfl cG) (fun w1 ci K hK=>?_);obtain⟨cm,cq⟩:=aV ci;have ct:=bv ci;(try simp only[Xs,ae,Xw,Xu]at cm cq ct)
  (try have l0w1:w.heap.size<=w1.heap.size:=by omega)
  (try have l1w1:w.heap.size < w1.heap.size:=by omega)
  (try have l2w1:w.heap.size+1 < w1.heap.size:=by omega)
  go_simp
  refine hK _ _ (Bel.bel (B:=_) ?_) ?_
  ·exact dM
  clear hK K;repeat(first|((first|refine fu rfl rfl rfl cG ?_|refine fw rfl rfl rfl cG ?_|refine fy rfl rfl rfl cG ?_);simp only[Act.put,XO,XQ,XZ])|(apply iU;(first|exact dG rfl|exact ei rfl rfl rfl cG);intro wq iP R hR;((have mX:=(aV iP).1;(try simp only[Xs,ae,Xw,Xu]at mX));go_simp;first|exact hR|((go_at_call 252;refine qb (vq a l _ hv.out ?_ ?_) hR;go_simp;go_simp)));simp only[Act.put,XO,XQ,XZ]))
  refine dY ?_;intro w2 cj;obtain⟨dB,dr⟩:=aV cj;have dC:=bv cj;(try simp only[Xs,ae,Xw,Xu]at dB dr dC)
  go_wp2_with fail
  go_ret
  refine⟨rfl,Bel.bel (B:=_) ?_⟩;exact dM
 case true=>
  obtain⟨g1,g2,g3,g4,-⟩:=d5 hA;obtain⟨z1,z2⟩:=sn l g1;have hv:=Xj hA;by_cases h0:0<=x
  ·by_cases h1:x<=65535
   ·have hs:nc a l x=(x - x % eX l==a):=by simp[nc,hA,h0,h1]
    rw[hs];have han:=yV x l h0 h1 g1;have h0I:decide (0<=x)=true:=by simp[h0]
    have h1I:decide (x<=65535)=true:=by simp[h1]
    clear hA hs;cases hE:(x - x % eX l==a);all_goals
     go_enter func310,ntmps310
     go_wp2_with fail
     refine SN ?_;refine kn aJ (by first|exact dG rfl|exact ei rfl rfl rfl cG) (fun w1 ci K hK=>?_);obtain⟨cm,cq⟩:=aV ci;have ct:=bv ci;(try simp only[Xs,ae,Xw,Xu]at cm cq ct)
     (try have l0w1:w.heap.size<=w1.heap.size:=by omega)
     (try have l1w1:w.heap.size < w1.heap.size:=by omega)
     (try have l2w1:w.heap.size+1 < w1.heap.size:=by omega)
     go_simp
     refine hK _ _ (Bel.bel (B:=_) ?_) ?_
     ·exact dM
     clear hK K;repeat(first|((first|refine fu rfl rfl rfl cG ?_|refine fw rfl rfl rfl cG ?_|refine fy rfl rfl rfl cG ?_);simp only[Act.put,XO,XQ,XZ])|(apply iU;(first|exact dG rfl|exact ei rfl rfl rfl cG);intro wq iP R hR;((have mX:=(aV iP).1;(try simp only[Xs,ae,Xw,Xu]at mX));go_simp;first|exact hR|(first|(go_at_call 252;refine qb (vq a l _ hv.out ?_ ?_) hR;go_simp;go_simp)|(go_at_call 235;exact ss (p6 _ _ g1 g2) hR)));simp only[Act.put,XO,XQ,XZ]))
     refine dY ?_;intro w2 cj;obtain⟨dB,dr⟩:=aV cj;have dC:=bv cj;(try simp only[Xs,ae,Xw,Xu]at dB dr dC)
     go_wp2_with fail
     go_ret
     refine⟨rfl,Bel.bel (B:=_) ?_⟩;exact dM
   ·have hs:nc a l x=false:=by simp[nc,h1]
    rw[hs];have h0I:decide (0<=x)=true:=by simp[h0]
    have h1I:decide (x<=65535)=false:=by simp[h1]
    clear hA hs h1;go_enter func310,ntmps310
    go_wp2_with fail
    refine SN ?_;refine kn aJ (by first|exact dG rfl|exact ei rfl rfl rfl cG) (fun w1 ci K hK=>?_);obtain⟨cm,cq⟩:=aV ci;have ct:=bv ci;(try simp only[Xs,ae,Xw,Xu]at cm cq ct)
    (try have l0w1:w.heap.size<=w1.heap.size:=by omega)
    (try have l1w1:w.heap.size < w1.heap.size:=by omega)
    (try have l2w1:w.heap.size+1 < w1.heap.size:=by omega)
    go_simp
    refine hK _ _ (Bel.bel (B:=_) ?_) ?_
    ·exact dM
    clear hK K;repeat(first|((first|refine fu rfl rfl rfl cG ?_|refine fw rfl rfl rfl cG ?_|refine fy rfl rfl rfl cG ?_);simp only[Act.put,XO,XQ,XZ])|(apply iU;(first|exact dG rfl|exact ei rfl rfl rfl cG);intro wq iP R hR;((have mX:=(aV iP).1;(try simp only[Xs,ae,Xw,Xu]at mX));go_simp;first|exact hR|((go_at_call 252;refine qb (vq a l _ hv.out ?_ ?_) hR;go_simp;go_simp)));simp only[Act.put,XO,XQ,XZ]))
    refine dY ?_;intro w2 cj;obtain⟨dB,dr⟩:=aV cj;have dC:=bv cj;(try simp only[Xs,ae,Xw,Xu]at dB dr dC)
    go_wp2_with fail
    go_ret
    refine⟨rfl,Bel.bel (B:=_) ?_⟩;exact dM
  ·have hs:nc a l x=false:=by simp[nc,h0]
   rw[hs];have h0I:decide (0<=x)=false:=by simp[h0]
   clear hA hs h0;go_enter func310,ntmps310
   go_wp2_with fail
   refine SN ?_;refine kn aJ (by first|exact dG rfl|exact ei rfl rfl rfl cG) (fun w1 ci K hK=>?_);obtain⟨cm,cq⟩:=aV ci;have ct:=bv ci;(try simp only[Xs,ae,Xw,Xu]at cm cq ct)
   (try have l0w1:w.heap.size<=w1.heap.size:=by omega)
   (try have l1w1:w.heap.size < w1.heap.size:=by omega)
   (try have l2w1:w.heap.size+1 < w1.heap.size:=by omega)
   go_simp
   refine hK _ _ (Bel.bel (B:=_) ?_) ?_
   ·exact dM
   clear hK K;repeat(first|((first|refine fu rfl rfl rfl cG ?_|refine fw rfl rfl rfl cG ?_|refine fy rfl rfl rfl cG ?_);simp only[Act.put,XO,XQ,XZ])|(apply iU;(first|exact dG rfl|exact ei rfl rfl rfl cG);intro wq iP R hR;((have mX:=(aV iP).1;(try simp only[Xs,ae,Xw,Xu]at mX));go_simp;first|exact hR|((go_at_call 252;refine qb (vq a l _ hv.out ?_ ?_) hR;go_simp;go_simp)));simp only[Act.put,XO,XQ,XZ]))
   refine dY ?_;intro w2 cj;obtain⟨dB,dr⟩:=aV cj;have dC:=bv cj;(try simp only[Xs,ae,Xw,Xu]at dB dr dC)
   go_wp2_with fail
   go_ret
   refine⟨rfl,Bel.bel (B:=_) ?_⟩;exact dM
def Ku (a l b m:Int):Bool:=qc a l b m||qc b m a l
theorem Ck (a l b m:Int)(w:World):
 Calls prog 124 #[.agg #[.int .i64 a,.int .i64 l],.agg #[.int .i64 b,.int .i64 m]] w fun e w'=>e= .returned (.bool (Ku a l b m))/\cM w w':=by
 unfold Ku;cases hA:qc a l b m
 case true=>
  have hc:=mf a l b m;rw[hA]at hc;replace hc:=Xj hc;clear hA;go_enter func124,ntmps124
  go_wp2_with fail
  refine(hc.out _).mono ?_;rintro e w1 ⟨rfl,ci⟩;obtain⟨cm,cq⟩:=aV ci;have ct:=bv ci;(try simp only[Xs,ae,Xw,Xu]at cm cq ct)
  go_wp2_with fail
  go_ret
  refine⟨rfl,Bel.bel (B:=_) ?_⟩;exact dM
 case false=>
  have hc:=mf a l b m;rw[hA]at hc;replace hc:=Xj hc;clear hA;obtain⟨r,hr⟩:∃r,r=qc b m a l:=⟨_,rfl⟩;have hd:=mf b m a l;rw[<-hr]at hd ⊢;clear hr;replace hd:=Xj hd;go_enter func124,ntmps124
  go_wp2_with fail
  refine(hc.out _).mono ?_;rintro e w1 ⟨rfl,ci⟩;obtain⟨cm,cq⟩:=aV ci;have ct:=bv ci;(try simp only[Xs,ae,Xw,Xu]at cm cq ct)
  go_wp2_with fail
  refine(hd.out _).mono ?_;rintro e w2 ⟨rfl,cj⟩;obtain⟨dB,dr⟩:=aV cj;have dC:=bv cj;(try simp only[Xs,ae,Xw,Xu]at dB dr dC)
  go_wp2_with fail
  go_ret
  refine⟨rfl,Bel.bel (B:=_) ?_⟩;exact dM
end
theorem qU (p:Pfx):ai prog 157 [.agg (aS p)] (.v (.int .i64 (chk p.at_ p.len))):=da (bY func157 aJ rfl) (by intro d hd;simp at hd;(repeat(first|(obtain rfl:=hd;rfl)|(rcases hd with rfl|hd; · rfl)))) rfl rfl (fun w=>qT _ _ _)
theorem Wv (p:Pfx):ai prog 203 [.agg (aS p)] (.v (.int .i64 (wG p.at_ p.len))):=da (bY func203 aJ rfl) (by intro d hd;simp at hd;(repeat(first|(obtain rfl:=hd;rfl)|(rcases hd with rfl|hd; · rfl)))) rfl rfl (fun w=>F5 _ _ _)
theorem F6 (p q:Pfx):ai prog 189 [.agg (aS p),.agg (aS q)] (.v (.bool (qc p.at_ p.len q.at_ q.len))):=da (bY func189 aJ rfl) (by intro d hd;simp at hd;(repeat(first|(obtain rfl:=hd;rfl)|(rcases hd with rfl|hd; · rfl)))) rfl rfl (fun w=>mf _ _ _ _ _)
theorem qV (p q:Pfx):ai prog 124 [.agg (aS p),.agg (aS q)] (.v (.bool (Ku p.at_ p.len q.at_ q.len))):=da (bY func124 aJ rfl) (by intro d hd;simp at hd;(repeat(first|(obtain rfl:=hd;rfl)|(rcases hd with rfl|hd; · rfl)))) rfl rfl (fun w=>Ck _ _ _ _ _)
theorem yX (p:Pfx):ai prog 134 [.agg (aS p)] (.v (.bool (bF p.at_ p.len))):=da (bY func134 aJ rfl) (by intro d hd;simp at hd;(repeat(first|(obtain rfl:=hd;rfl)|(rcases hd with rfl|hd; · rfl)))) rfl rfl (fun w=>sq _ _ _)
theorem PO (p:Pfx)(h:bF p.at_ p.len=true):ai prog 136 [.agg (aS p)] (.v (.int .i64 (md p.at_ p.len))):=da (bY func136 aJ rfl) (by intro d hd;simp at hd;(repeat(first|(obtain rfl:=hd;rfl)|(rcases hd with rfl|hd; · rfl)))) rfl rfl (fun w=>tO _ _ _ h)
theorem MT (p:Pfx)(x:Int):ai prog 224 [.agg (aS p),.v (.int .i64 x)] (.v (.bool (me p.at_ p.len x))):=da (bY func224 aJ rfl) (by intro d hd;simp at hd;(repeat(first|(obtain rfl:=hd;rfl)|(rcases hd with rfl|hd; · rfl)))) rfl rfl (fun w=>wF _ _ _ _)
theorem yY (p q:Pfx):ai prog 135 [.agg (aS p),.agg (aS q)] (.v (.bool (Ba p.at_ p.len q.at_ q.len))):=da (bY func135 aJ rfl) (by intro d hd;simp at hd;(repeat(first|(obtain rfl:=hd;rfl)|(rcases hd with rfl|hd; · rfl)))) rfl rfl (fun w=>tP _ _ _ _ _)
theorem su (p q:Pfx):ai prog 72 [.agg (aS p),.agg (aS q)] (.v (.bool (pq p.at_ p.len q.at_ q.len))):=da (bY func72 aJ rfl) (by intro d hd;simp at hd;(repeat(first|(obtain rfl:=hd;rfl)|(rcases hd with rfl|hd; · rfl)))) rfl rfl (fun w=>tQ _ _ _ _ _)
section
open Go.Proofs
def Pfx.meets (p q:Pfx):Bool:=Ku p.at_ p.len q.at_ q.len
def Pfx.low (p:Pfx):Pfx:=⟨p.at_,p.len+1⟩
def Pfx.high (p:Pfx):Pfx:=⟨p.at_+eX (p.len+1),p.len+1⟩
def Pfx.right (p:Pfx):Bool:=bF p.at_ p.len
def Pfx.v (p:Pfx):Value:= .agg #[.int .i64 p.at_,.int .i64 p.len]
theorem qd {a l:Int}(h0:0<=l)(h1:l<=16)(h2:0<=a)(h3:a<=65535)(h4:a % eX l=0):bF a l=true:=by
 unfold bF;rw[IF h0 h1 h2 h3];unfold eX at h4;simp[h4]
theorem tT {l:Int}(h0:0<=l)(h1:l < 16):eX l=2*eX (l+1):=by
 unfold eX;have:(16 - l).toNat=(16 - (l+1)).toNat+1:=aa;rw[this,_y];omega
theorem oV {l m:Int}(h0:0<=m)(h1:m<=l)(h2:l<=16):∃k:Int,eX m=eX l*k/\1<=k:=by
 refine⟨2 ^ (l - m).toNat,?_,?_⟩
 ·unfold eX;rw[<-Int.pow_add];congr 1;omega
 ·have h3:=Nat.one_le_two_pow (n:=(l - m).toNat);have h4:((2 ^ (l - m).toNat:Nat):Int)=(2:Int) ^ (l - m).toNat:=ah;omega
theorem Cl {a l:Int}(h:bF a l=true):a+eX l<=65536:=by
 obtain⟨g1,g2,g3,g4,g5⟩:=d5 h;obtain⟨k,hk,rn⟩:=oV (ZW 0) g1 g2;have h0:eX 0=65536:=mR;rw[h0]at hk;have hs:=fH g1;have hd:eX l ∣ 65536 - a:=by
  refine _w ⟨k,hk⟩ (YJ g5)
 have:=Int.le_of_dvd aa hd;omega
def dZ (p q:Pfx):Bool:=qc p.at_ p.len q.at_ q.len
def Pfx.hi (p:Pfx):Int:=p.at_+eX p.len
theorem Pfx.bd {p:Pfx}(h:p.right=true):0<=p.len/\p.len<=16/\0<=p.at_/\p.at_<=65535/\p.at_ % eX p.len=0:=d5 h
theorem Pfx.hi_bd {p:Pfx}(h:p.right=true):p.at_ < p.hi/\p.hi<=65536:=by
 have h1:=Cl h;obtain⟨g1,-⟩:=p.bd h;have h2:=fH g1;unfold Pfx.hi;omega
theorem xJ {s a b:Int}(hs:0 < s)(hb:b % s=0):a - a % s=b↔b<=a/\a < b+s:=by
 have h1:=Int.emod_nonneg a (b:=s) aa;have h2:=Int.emod_lt_of_pos a hs;constructor
 ·intro h;omega
 ·intro⟨h3,h4⟩;have h5:(a - b) % s=a % s:=by rw[Int.sub_emod,hb,Int.sub_zero,Int.emod_emod]
  rw[Int.emod_eq_of_lt aa aa]at h5;omega
theorem tU {s x:Int}(hs:0 < s)(hx:0 < x)(hd:s ∣ x):s<=x:=Int.le_of_dvd hx hd
theorem Ww {p q:Pfx}(hp:p.right=true)(hq:q.right=true)(hl:q.len<=p.len)(h1:p.at_ < q.hi)(h2:q.at_ < p.hi):q.at_<=p.at_/\p.hi<=q.hi:=by
 obtain⟨a1,a2,a3,a4,a5⟩:=p.bd hp;obtain⟨b1,b2,b3,b4,b5⟩:=q.bd hq;obtain⟨k,hk,rn⟩:=oV b1 hl a2;have s1:=fH a1;have s2:=fH b1;unfold Pfx.hi at*;have dq:eX p.len ∣ q.at_:=_d ⟨k,hk⟩ (YJ b5);have dp:eX p.len ∣ p.at_:=YJ a5;have dm:eX p.len ∣ eX q.len:=⟨k,hk⟩;refine⟨?_,?_⟩
 ·rcases X' p.at_ q.at_ with h|h
  ·have:=tU aa (show 0 < q.at_ - p.at_ by omega) (_w dq dp);omega
  ·exact h
 ·have:=tU aa (show 0 < q.at_+eX q.len - p.at_ by omega) (_w (Int.dvd_add dq dm) dp);omega
theorem fe {p q:Pfx}:dZ p q=true↔p.right=true/\q.right=true/\q.len<=p.len/\q.at_<=p.at_/\p.at_ < q.hi:=by
 unfold dZ qc Pfx.right;constructor
 ·intro h;simp only[Xt,decide_eq_true_eq,beq_iff_eq]at h;obtain⟨⟨⟨h1,h2⟩,h3⟩,h4⟩:=h;obtain⟨b1,b2,b3,b4,b5⟩:=d5 h2;have:=(xJ (by have:=fH b1;omega) b5).1 h4;exact⟨h1,h2,h3,this.1,this.2⟩
 ·intro⟨h1,h2,h3,h4,h5⟩;obtain⟨b1,b2,b3,b4,b5⟩:=d5 h2;simp only[Xt,decide_eq_true_eq,beq_iff_eq];exact⟨⟨⟨h1,h2⟩,h3⟩,(xJ (by have:=fH b1;omega) b5).2 ⟨h4,h5⟩⟩
theorem Kv {s k:Int}(hs:0<=s)(hk:1<=k):s<=s*k:=by
 have:=Int.mul_le_mul_of_nonneg_left hk hs;rwa [Int.mul_one]at this
theorem Wx {l m:Int}(h0:0<=m)(h2:l<=16)(h3:0<=l)(hm:m<=16):eX l<=eX m↔m<=l:=by
 constructor
 ·intro h;rcases X' l m with hlt|hle
  ·obtain⟨k,hk,rn⟩:=oV (l:=m) (m:=l+1) aa aa hm;have e:=tT h3 aa;have s1:=fH h0;have:eX m<=eX (l+1):=by rw[hk];exact Kv (by have:=fH (n:=l+1) aa;omega) rn
   omega
  ·exact hle
 ·intro h;obtain⟨k,hk,rn⟩:=oV h0 h h2;rw[hk];exact Kv (by have:=fH h3;omega) rn
theorem cw {p q:Pfx}:dZ p q=true↔p.right=true/\q.right=true/\q.at_<=p.at_/\p.hi<=q.hi:=by
 rw[fe];constructor
 ·intro⟨h1,h2,h3,h4,h5⟩;exact⟨h1,h2,Ww h1 h2 h3 h5 (by have:=p.hi_bd h1;omega)⟩
 ·intro⟨h1,h2,h3,h4⟩;have hp:=p.hi_bd h1;obtain⟨a1,a2,-⟩:=p.bd h1;obtain⟨b1,b2,-⟩:=q.bd h2;exact⟨h1,h2,(Wx b1 a2 a1 b2).1 (by unfold Pfx.hi at*;omega),h3,by omega⟩
theorem xK (p q:Pfx):Ba p.at_ p.len q.at_ q.len=dZ p q:=by
 rw[Yk,cw];unfold Ba me dH md Pfx.right Pfx.hi;simp only[Xt,decide_eq_true_eq];constructor
 ·intro⟨⟨⟨h1,h2⟩,h3⟩,h4⟩;exact⟨h1,h2,h3.2.1,by omega⟩
 ·intro⟨h1,h2,h3,h4⟩;obtain⟨a1,-⟩:=d5 h1;have s1:=fH a1;exact⟨⟨⟨h1,h2⟩,⟨h2,h3,by omega⟩⟩,⟨h2,by omega,by omega⟩⟩
theorem ee {p q:Pfx}:p.meets q=true↔p.right=true/\q.right=true/\p.at_ < q.hi/\q.at_ < p.hi:=by
 have e:p.meets q=(dZ p q||dZ q p):=rfl;rw[e,Bool.or_eq_true,fe,fe];constructor
 ·rintro (⟨h1,h2,h3,h4,h5⟩|⟨h1,h2,h3,h4,h5⟩)
  ·exact⟨h1,h2,h5,by have:=p.hi_bd h1;omega⟩
  ·exact⟨h2,h1,by have:=q.hi_bd h1;omega,h5⟩
 ·intro⟨h1,h2,h3,h4⟩;rcases _z q.len p.len with hl|hl
  ·exact .inl ⟨h1,h2,hl,(Ww h1 h2 hl h3 h4).1,h3⟩
  ·exact .inr ⟨h2,h1,hl,(Ww h2 h1 hl h4 h3).1,h4⟩
theorem fI (p q:Pfx):pq p.at_ p.len q.at_ q.len=p.meets q:=by
 rw[Yk,ee];unfold pq md Pfx.right Pfx.hi;simp only[Xt,decide_eq_true_eq];constructor
 ·intro⟨⟨⟨h1,h2⟩,h3⟩,h4⟩;exact⟨h1,h2,by omega,by omega⟩
 ·intro⟨h1,h2,h3,h4⟩;exact⟨⟨⟨h1,h2⟩,by omega⟩,by omega⟩
theorem sv (p q:Pfx):p.meets q=q.meets p:=by
 rw[Yk,ee,ee];constructor<;>(intro⟨h1,h2,h3,h4⟩;exact⟨h2,h1,h4,h3⟩)
theorem oe {p:Pfx}{x:Int}:me p.at_ p.len x=true↔p.right=true/\p.at_<=x/\x < p.hi:=by
 unfold me dH md Pfx.right Pfx.hi;simp only[Xt,decide_eq_true_eq];constructor
 ·intro⟨h1,h2,h3⟩;exact⟨h1,h2,by omega⟩
 ·intro⟨h1,h2,h3⟩;exact⟨h1,h2,by omega⟩
theorem qe (p:Pfx)(x:Int):nc p.at_ p.len x=me p.at_ p.len x:=by
 rw[Yk,oe];unfold nc Pfx.right;simp only[Xt,decide_eq_true_eq,beq_iff_eq];constructor
 ·intro⟨h1,h2,h3,h4⟩;obtain⟨b1,b2,b3,b4,b5⟩:=d5 h1;have:=(xJ (by have:=fH b1;omega) b5).1 h4;exact⟨h1,this.1,this.2⟩
 ·intro⟨h1,h2,h3⟩;obtain⟨b1,b2,b3,b4,b5⟩:=d5 h1;have hf:=p.hi_bd h1;exact⟨h1,by omega,by omega,(xJ (by have:=fH b1;omega) b5).2 ⟨h2,h3⟩⟩
theorem wH {a l:Int}(h:bF a l=true):wG a l=eX l:=by unfold wG;rw[aj h]
end
theorem Id {p:Prop}(h:p:=by
 rintro m e h ⟨k,rn,bJ,hm,rfl,rfl⟩ CL oH;by_cases hlt:k < l.length
 ·obtain⟨x,hx⟩:∃x,l[k - 1]? =some x:=⟨_,Xk aa⟩;obtain⟨y,hy⟩:∃y,l[k]? =some y:=⟨_,Xk hlt⟩;have ed:(k:Int) < (l.length:Int):=aa;have db:=wi k aa;have C9:IntKind.i64.wrap ((k:Int) - 1)=((k - 1:Nat):Int):=by rw[IntKind.wrap_i64];omega
  have HN:=cU x;have hly:=cU y;have htx:=XG (YZ (cU x));have hty:=XG (YZ (cU y));have lg:=hc x (Xl hx);have hcy:=hc y (Xl hy);have pE:l[k - 1]'(by omega)=x:=by rw[Xk aa]at hx;exact XW.inj hx
  have AO:l[k]=y:=by rw[Xk hlt]at hy;exact XW.inj hy
  replace pE:=Xj pE;replace AO:=Xj AO;replace hm:=Xj hm;cases hge:decide (key x>=key y)with
  |true=>
   have hr:fK key l=false:=by
    rw[YD,ne_eq,fg];intro h;have:=h (k - 1) aa;simp only[show k - 1+1=k by omega,pE.out,AO.out]at this;simp at hge;omega
   exact bc;all_goals(rw[hr];exact aP.refl _)
  |false=>
   refine ap ?_<;>intros;refine oH _ _ _ _ _ ?_ ⟨k+1,by omega,fun j hj Ez=>?_,rfl,rfl,rfl⟩ (wf (x:=[]) (hh:=rfl) (he:=⟨rfl,rfl,rfl,rfl,trivial⟩))
   ·have:=hm.out;omega
   ·rcases XM (j+1) k with h|h
    ·exact bJ j hj h
    ·obtain rfl:j=k - 1:=aa;simp only[show k - 1+1=k by omega,pE.out,AO.out];simp at hge;omega
 ·have ed:decide ((k:Int) < (l.length:Int))=false:=aK;have hr:fK key l=true:=(fg l).2 fun j hj=>bJ j hj aa;replace hm:=Xj hm;exact bc;all_goals(rw[hr];exact aP.refl _)):p:=h
theorem a4i {p:Prop}(h:p:=by
 rintro⟨h1,h2⟩ j hj;cases j with
 |zero=>exact h1
 |succ j=>exact h2 j (by simpa using hj)):p:=h
theorem a4l {p:Prop}(h:p:=by
 exact wf (x:=[]) (hh:=rfl) (he:=⟨rfl,rfl,rfl,rfl,trivial⟩)):p:=h
theorem a4O {p:Prop}(h:p:=by
 intro h;exact⟨h 0 ah,fun j hj=>h (j+1) (by simpa using hj)⟩):p:=h
theorem a5x {p:Prop}(h:p:=by
 refine pj func207 ntmps207 results207 ?_;exact bc;all_goals exact aP.refl _):p:=h
theorem a5y {p:Prop}(h:p:=by
 refine pj func258 ntmps258 results258 ?_;exact bc;all_goals exact aP.refl _):p:=h
def cB (n:Int):Bool:=decide (1<=n)&&decide (n<=65536)
theorem mg (n:Int):ai prog 191 [.v (.int .i64 n)] (.v (.bool (cB n))):=by
 cases e1:decide (n>=1)with
 |true=>
  have h1:decide (1<=n)=true:=e1;refine pj func191 ntmps191 results191 ?_;refine ap ?_<;>intros;all_goals(unfold cB;rw[h1];exact aP.refl _)
 |false=>
  have h1:decide (1<=n)=false:=e1;refine pj func191 ntmps191 results191 ?_;refine ap ?_<;>intros;all_goals(unfold cB;rw[h1];exact aP.refl _)
theorem Kw {x y:Bool}(h:x=y):aP (.v (.bool x)) (.v (.bool y)):=h ▸ aP.refl _
theorem tV {x y:Int}(h:x=y):aP (.v (.int .i64 x)) (.v (.int .i64 y)):=h ▸ aP.refl _
def rM (f:Fce):Bool:=decide ((f.addrs.length:Int)>4)
def pr (s:Sbn):Bool:=decide ((s.faces.length:Int)>8)||s.faces.any rM
def mh (v:Vpc):Bool:=decide ((v.ranges.length:Int)>4)||(decide ((v.subs.length:Int)>6)||v.subs.any pr)
theorem PP (f:Fce):ai prog 264 [.agg (cl f)] (.v (.bool (rM f))):=by
 refine pj func264 ntmps264 results264 ?_;exact bc;all_goals exact aP.refl _
theorem TV (s:Sbn):ai prog 262 [.agg (aX s)] (.v (.bool (pr s))):=by
 unfold pr;by_cases h:s.faces.length>8
 ·have h1:decide ((s.faces.length:Int)>8)=true:=aK;rw[h1];refine pj func262 ntmps262 results262 ?_;exact bc;all_goals exact aP.refl _
 ·have h1:decide ((s.faces.length:Int)>8)=false:=aK;have hc:=MP yM rM s.faces 264 [] aa (fun f _=>PP f);rw[h1];refine pj func262 ntmps262 results262 ?_;exact bc;all_goals exact aP.refl _
theorem Wy (v:Vpc):ai prog 207 [.agg (ax v)] (.v (.bool (mh v))):=by
 unfold mh;cases h1:decide ((v.ranges.length:Int)>4)with
 |true=>exact a5x
 |false=>
  cases h2:decide ((v.subs.length:Int)>6)with
  |true=>exact a5x
  |false=>
   have hl:v.subs.length<=6:=by simp at h2;omega
   have hc:=yT nY pr v.subs 262 [] aa (fun f _=>TV f);refine pj func207 ntmps207 results207 ?_;exact bc;all_goals exact aP.refl _
theorem yZ {v:Vpc}(h:mh v=false):v.ranges.length<=4/\v.subs.length<=6/\∀s∈v.subs,s.faces.length<=8/\∀f∈s.faces,f.addrs.length<=4:=by
 simp only[mh,pr,rM,Zx,decide_eq_false_iff_not,Yh]at h;refine⟨by omega,by omega,fun s hs=>?_⟩;have h1:=h.2.2 s hs;simp only[Bool.not_eq_true,Zx,decide_eq_false_iff_not,Yh,decide_eq_true_eq]at h1;exact⟨by omega,fun f hf=>by have h2:=h1.2 f hf;revert h2;simp[rM];omega⟩
def fJ (v:Vpc)(p:Pfx):Bool:=v.ranges.any fun r=>dZ p r.at_
theorem PQ (r:Rng)(p:Pfx):ai prog 253 [.agg (bE r),.ept (aS p)] (.v (.bool (dZ p r.at_))):=by
 have hi:ai prog 189 [.agg (aS p),.agg (aS r.at_)] (.v (.bool (dZ p r.at_))):=F6 p r.at_;refine pj func253 ntmps253 results253 ?_;exact bc
theorem tW (v:Vpc)(p:Pfx)(hl:v.ranges.length<=1000000000):ai prog 192 [.agg (ax v),.agg (aS p)] (.v (.bool (fJ v p))):=by
 have hc:=oU nZ (fun r=>dZ p r.at_) v.ranges 253 [.ept (aS p)] hl (fun r _=>PQ r p);refine pj func192 ntmps192 results192 ?_;exact bc
theorem TW (p:Pfx)(x:Int):ai prog 310 [.agg (aS p),.v (.int .i64 x)] (.v (.bool (nc p.at_ p.len x))):=da (bY func310 aJ rfl) (by intro d hd;simp at hd;(repeat(first|(obtain rfl:=hd;rfl)|(rcases hd with rfl|hd; · rfl)))) rfl rfl (fun w=>MS _ _ _ _)
def jh (p:Pfx)(x:Int):Bool:=nc p.at_ p.len x&&(decide (x>p.at_)&&decide (x < p.at_+eX p.len - 1))
theorem Kx (p:Pfx)(x:Int):ai prog 258 [.agg (aS p),.v (.int .i64 x)] (.v (.bool (jh p x))):=by
 have hh:=TW p x;unfold jh;cases h1:nc p.at_ p.len x with
 |false=>
  rw[h1]at hh;refine pj func258 ntmps258 results258 ?_;exact bc;all_goals exact aP.refl _
 |true=>
  have hr:p.right=true:=(oe.1 (by rw[<-qe];exact h1)).1;obtain⟨b1,b2,b3,b4,-⟩:=p.bd hr;have hs:=fH b1;have H5:=Wv p;rw[wH hr]at H5;have ci:IntKind.i64.wrap (p.at_+eX p.len)=p.at_+eX p.len:=by rw[IntKind.wrap_i64];omega
  have cj:IntKind.i64.wrap (p.at_+eX p.len - 1)=p.at_+eX p.len - 1:=by rw[IntKind.wrap_i64];omega
  rw[h1]at hh;generalize eX p.len=Z at*;cases h2:decide (x>p.at_)with
  |false=>exact a5y
  |true=>exact a5y
def fK {α:Type}(key:α->Int):List α->Bool
 |a::b::l=>decide (key a < key b)&&fK key (b::l)
 |_=>true
theorem fg {α:Type}{key:α->Int}:∀(l:List α),fK key l=true↔∀j (h:j+1 < l.length),key l[j] < key l[j+1]
 |[]=>by simp[fK]
 |[a]=>by simp[fK]
 |a::b::l=>by
  have ih:=fg (key:=key) (b::l);simp only[fK,Xt,decide_eq_true_eq,ih];constructor
  ·exact a4i
  ·exact a4O
theorem gE {α:Type}{key:α->Int}:∀(l:List α),fK key l=true↔l.Pairwise fun a b=>key a < key b
 |[]=>by simp[fK]
 |[a]=>by simp[fK]
 |a::b::l=>by
  have ih:=gE (key:=key) (b::l);simp only[fK,Xt,decide_eq_true_eq,ih];constructor
  ·rintro⟨h1,h2⟩;refine YC.2 ⟨fun x hx=>?_,h2⟩;rcases X2.1 hx with rfl|hx
   ·exact h1
   ·have:=(YC.1 h2).1 x hx;omega
  ·intro h;obtain⟨h1,h2⟩:=YC.1 h;exact⟨h1 b ah,h2⟩
theorem F7 {α:Type}{enc:α->List D}(cU:∀x,(enc x).length=3)(key:α->Int)(l:List α)(g:Nat)(hl:l.length<=1000000000)(hc:∀x∈l,ai prog g [.agg (enc x)] (.v (.int .i64 (key x)))):
 ai prog 208 [.sl 3 (l.map enc),.clo g []] (.v (.bool (fK key l))):=by
 refine pj func208 ntmps208 results208 ?_;refine ap ?_<;>intros;refine bQ ag am (fun m e h=>∃k:Nat,1<=k/\(∀j (h:j+1 < l.length),j+1 < k->key l[j] < key l[j+1])/\m=l.length - k/\e=[(5,.d (.v (.int .i64 k))),(4,.d (.v (.bool false))),(1,.d (.clo g [])),(0,.d (.sl 3 (l.map enc)))]/\h=[]) _ _ _ ⟨1,Xz _,fun j h h1=>by omega,rfl,rfl,rfl⟩ ?_ ?_
 ·exact a4l
 ·exact Id
theorem MU {α:Type}{enc:α->List D}(cU:∀x,(enc x).length=4)(key:α->Int)(l:List α)(g:Nat)(hl:l.length<=1000000000)(hc:∀x∈l,ai prog g [.agg (enc x)] (.v (.int .i64 (key x)))):
 ai prog 210 [.sl 4 (l.map enc),.clo g []] (.v (.bool (fK key l))):=by
 refine pj func210 ntmps210 results210 ?_;refine ap ?_<;>intros;refine bQ ag am (fun m e h=>∃k:Nat,1<=k/\(∀j (h:j+1 < l.length),j+1 < k->key l[j] < key l[j+1])/\m=l.length - k/\e=[(5,.d (.v (.int .i64 k))),(4,.d (.v (.bool false))),(1,.d (.clo g [])),(0,.d (.sl 4 (l.map enc)))]/\h=[]) _ _ _ ⟨1,Xz _,fun j h h1=>by omega,rfl,rfl,rfl⟩ ?_ ?_
 ·exact a4l
 ·exact Id
theorem IP {α:Type}{enc:α->List D}(cU:∀x,(enc x).length=2)(key:α->Int)(l:List α)(g:Nat)(hl:l.length<=1000000000)(hc:∀x∈l,ai prog g [.agg (enc x)] (.v (.int .i64 (key x)))):
 ai prog 267 [.sl 2 (l.map enc),.clo g []] (.v (.bool (fK key l))):=by
 refine pj func267 ntmps267 results267 ?_;refine ap ?_<;>intros;refine bQ ag am (fun m e h=>∃k:Nat,1<=k/\(∀j (h:j+1 < l.length),j+1 < k->key l[j] < key l[j+1])/\m=l.length - k/\e=[(5,.d (.v (.int .i64 k))),(4,.d (.v (.bool false))),(1,.d (.clo g [])),(0,.d (.sl 2 (l.map enc)))]/\h=[]) _ _ _ ⟨1,Xz _,fun j h h1=>by omega,rfl,rfl,rfl⟩ ?_ ?_
 ·exact a4l
 ·exact Id
theorem MV (l:List Int)(g:Nat)(hl:l.length<=1000000000)(hc:∀x,ai prog g [.v (.int .i64 x)] (.v (.int .i64 x))):
 ai prog 265 [.sl 1 (l.map cF),.clo g []] (.v (.bool (fK (fun x=>x) l))):=by
 refine pj func265 ntmps265 results265 ?_;refine ap ?_<;>intros;refine bQ ag am (fun m e h=>∃k:Nat,1<=k/\(∀j (h:j+1 < l.length),j+1 < k->l[j] < l[j+1])/\m=l.length - k/\e=[(5,.d (.v (.int .i64 k))),(4,.d (.v (.bool false))),(1,.d (.clo g [])),(0,.d (.sl 1 (l.map cF)))]/\h=[]) _ _ _ ⟨1,Xz _,fun j h h1=>by omega,rfl,rfl,rfl⟩ ?_ ?_
 ·exact a4l
 ·rintro m e h ⟨k,rn,bJ,hm,rfl,rfl⟩ CL oH;by_cases hlt:k < l.length
  ·obtain⟨x,hx⟩:∃x,l[k - 1]? =some x:=⟨_,Xk aa⟩;obtain⟨y,hy⟩:∃y,l[k]? =some y:=⟨_,Xk hlt⟩;have ed:(k:Int) < (l.length:Int):=aa;have db:=wi k aa;have C9:IntKind.i64.wrap ((k:Int) - 1)=((k - 1:Nat):Int):=by rw[IntKind.wrap_i64];omega
   have lg:=hc x;have hcy:=hc y;have pE:l[k - 1]'(by omega)=x:=by rw[Xk aa]at hx;exact XW.inj hx
   have AO:l[k]=y:=by rw[Xk hlt]at hy;exact XW.inj hy
   replace pE:=Xj pE;replace AO:=Xj AO;replace hm:=Xj hm;cases hge:decide (x>=y)with
   |true=>
    have hr:fK (fun x=>x) l=false:=by
     rw[YD,ne_eq,fg];intro h;have:=h (k - 1) aa;simp only[show k - 1+1=k by omega,pE.out,AO.out]at this;simp at hge;omega
    exact bc;all_goals(rw[hr];exact aP.refl _)
   |false=>
    refine ap ?_<;>intros;refine oH _ _ _ _ _ ?_ ⟨k+1,by omega,fun j hj Ez=>?_,rfl,rfl,rfl⟩ (wf (x:=[]) (hh:=rfl) (he:=⟨rfl,rfl,rfl,rfl,trivial⟩))
    ·have:=hm.out;omega
    ·rcases XM (j+1) k with h|h
     ·exact bJ j hj h
     ·obtain rfl:j=k - 1:=aa;simp only[show k - 1+1=k by omega,pE.out,AO.out];simp at hge;omega
  ·have ed:decide ((k:Int) < (l.length:Int))=false:=aK;have hr:fK (fun x=>x) l=true:=(fg l).2 fun j hj=>bJ j hj aa;replace hm:=Xj hm;exact bc;all_goals(rw[hr];exact aP.refl _)
def il:List Pfx->List Pfx->Bool
 |_,[]=>true
 |pre,p::l=>!(pre.any p.meets)&&il (pre++[p]) l
theorem PR (q p:Pfx):ai prog 269 [.agg (aS q),.ept (aS p)] (.v (.bool (p.meets q))):=by
 have hm:ai prog 124 [.agg (aS p),.agg (aS q)] (.v (.bool (p.meets q))):=qV p q;refine pj func269 ntmps269 results269 ?_;exact bc
theorem kR {α:Type}{l:List α}{k:Nat}{x:α}(h:l[k]? =some x):l.drop k=x::l.drop (k+1):=by
 obtain⟨hk,rfl⟩:=Xn.1 h;exact YR hk
theorem Ky (l:List Pfx)(hl:l.length<=1000000000):ai prog 213 [.sl 2 (l.map aS)] (.v (.bool (il [] l))):=by
 refine pj func213 ntmps213 results213 ?_;refine ap ?_<;>intros;refine bf ag am l (fun k=>il [] l=il (l.take k) (l.drop k)) (fun k=>[(7,.d (.v (.int .i64 k))),(6,.d (.v (.int .i64 l.length))),(5,.d (.sl 2 (l.map aS))),(2,.d (.v (.bool false))),(0,.d (.sl 2 (l.map aS)))]) (fun _=>[]) rfl (wf (x:=[]) (hh:=rfl) (he:=⟨rfl,rfl,rfl,rfl,rfl,trivial⟩)) ?_ ?_
 ·intro k p hp hk hI C hC;have eo:(k:Int) < (l.length:Int):=aa;have db:=wi k aa;have pK:=wD FJ p.meets (l.take k) 269 [.ept (aS p)] (by rw[Xp];omega) (fun q _=>PR q p);rw[ZI]at pK;rw[kR hp]at hI;simp only[il,<-ak hp]at hI;replace hI:=Xj hI;have xT:k<=l.length:=aa;cases ha:(l.take k).any p.meets with
  |true=>
   rw[ha]at pK;refine ap ?_<;>intros;all_goals(rw[hI.out,ha];exact aP.refl _)
  |false=>
   rw[ha]at pK;refine ap ?_<;>intros;exact hC _ _ (by rw[hI.out,ha];rfl) (wf)
 ·intro hI C;rw[Zc]at hI;replace hI:=Xj hI;refine ap ?_<;>intros;all_goals(rw[hI.out];exact aP.refl _)
end Go.Proofs.YtojojebildofnaaGreatDoor
