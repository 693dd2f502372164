/- Texts of this work, joined. -/
import Derived.Test.YtojojebildofnaaGreatDoorZHDeskShows1
import Derived.Maps.RangeRun
import Derived.Laws.IdiomRangeMap
import Derived.WalkMore
import Derived.Laws.BytesArg
import Derived.Deep.LoopGhost
import Derived.Deep.RegionHeld3
set_option linter.unusedSimpArgs false
set_option linter.unusedVariables false
set_option maxRecDepth 100000
set_option maxHeartbeats 16000000
namespace Go.Proofs.YtojojebildofnaaGreatDoor
open Go Go.RowKit Go.Proofs.Tryz
open _root_.List renaming getElem?_eq_getElem → Xj, mem_of_getElem? → Xl, map_cons → Xm, setIfInBounds_toArray → Xn, getElem?_eq_some_iff → Xo, length_take → Xp, take_length → Xq, length_append → Xt, set_cons_zero → Xv, set_cons_succ → Xw, map_nil → Xx, map_append → Xz, getElem?_map → XA, all_eq_true → XB, length_cons → XD, getD_eq_getElem?_getD → XE, length_map → XF, mem_map → XH, take_of_length_le → XI, getElem?_eq_none → XN, getElem?_append_right → XP, getElem?_take_of_lt → XQ, replicate → XR, length_drop → XS, append_assoc → XT, findIdx?_eq_some_iff_getElem → XV, mem_cons → XY, eq_nil_of_length_eq_zero → XZ, range → X3, mem_append → X4, getElem?_append_left → X5, cons_append → X6, mem_singleton → X7, length_nil → X8, append_nil → Ya, mem_of_mem_drop → Yb, mem_of_mem_take → Yc, any_eq_true → Yd, nil_append → Ye, mem_iff_getElem → Yf, ext_getElem? → Yh, getElem?_drop → Yk, getElem_mem → Ym, take_append_of_le_length → Yp, any_eq_false → Yw, findIdx?_eq_none_iff → Yx, take_zero → YA, size_toArray → YB, getElem?_cons_succ → YJ, mem_range → YP, take_append_drop → YU, drop_eq_getElem_cons → YV, all_eq_false → YX, flatMap_append → Y1, map_congr_left → Y2, mem_map_of_mem → Za, set_append_right → Zc, length_pos_iff → Zh, take_succ_eq_append_getElem → Zq, length_filter_le → Zw, map_take → Zz, take_succ_cons → ZI, filter_append → ZN, getElem_take → ZX, eraseIdx_eq_take_drop_succ → Z1, getElem?_range → Z2, map_map → Z8, mem_cons_self → p', length_set → A', range_succ → P'
open Go.Lib renaming hid → Xk
open Go.World renaming size_alloc → Xr, heap_drewN → Xs, size_drew → Xu, cell? → YQ, cell?_of_block → Zn, ownsRow_nil → Q'
open _root_.Bool renaming and_eq_true → Xy, eq_iff_iff → Yl, and_self → Yn, and_true → Yz, true_and → YC, false_eq_true → YY, not_eq_true' → ZV
open _root_.Nat renaming le_refl → XC, zero_add → XK, zero_le → XL, lt_or_ge → XO, reduceAdd → XU, add_zero → X0, mul_le_mul_right → Yo, sub_zero → Yr, lt_of_lt_of_le → Yt, le_trans → Yu, not_lt_zero → YT, lt_trichotomy → Y4, sub_self → Y8, add_assoc → Zd, eq_zero_or_pos → Zl, zero_lt_succ → ZM, reduceLT → ZY, min_self → z', le_of_lt → G'
open _root_.Option renaming map_eq_some_iff → XG, isSome_some → XJ, some → XX, map_some → Yg, getD_some → Yy, isSome_none → YL, bind_some → YW, map_none → Zi, isSome_iff_exists → Zy
open _root_.Array renaming getElem?_toList → X2, getElem?_eq_none → Yj, getElem?_eq_some_iff → Yq, getD_eq_getD_getElem? → Ys, getElem?_eq_getElem → YN, replicate → Y9, ext' → Z9
open _root_.Int renaming lt_irrefl → YZ, eq_ofNat_of_zero_le → ZE, tmod_eq_emod_of_nonneg → ZO
open _root_.ByteArray renaming size_extract → Y7, ext → ZL, toList_eq → J'
theorem SU {c c1:Cx}{w:World}{ρ:Nat→Nat}{m j:Nat}{ch:Chunk}(hM:∀d x,RepD c.M w d x→RepD c1.M w d x)(hMb:∀b,c1.M b→c.M b)(hb:∀j,j < m→∀b,c.bl (ρ j)=some b→c1.bl j=some b)(ho:∀j,j < m→∀g u,c.ov (ρ j) g=some u→c1.ov j g=some u)
 (RM:c1.bl j=c.bl (ρ j)) (Ub:c1.ov j=c.ov (ρ j)) (jO:aH m ch=true) (h:ChunkOK c w (ρ j) (lA ρ ch)):ChunkOK c1 w j ch:=by
 cases ch with
 |none=>cases h with|none h1 h2=>exact .none (RM.trans h1) (fun g=>by rw[Ub];exact h2 g)
 |gone=>exact .gone
 |mp nB sB ents=>cases h with|mp _ _ _ b hb hh hn=>exact .mp nB sB ents b (RM.trans hb) hh hn
 |it nB sB ents seen=>cases h with|it _ _ _ _ b bm hb hh hM hm=>exact .it nB sB ents seen b bm (RM.trans hb) hh (fun h=>hM (hMb _ h)) hm
 |box T cells=>
  cases h with
  |box _ _ b vs h1 h2 h3 h4=>
   refine .box T cells b vs (RM.trans h1) h2 ⟨by rw[←h3.1,cR,XF],qD hM hb ho cells vs (by simpa[aH]using jO) h3.2⟩ (fun d hd=>?_);rw[←pw ρ];exact h4 _ (by rw[cR];exact Za hd)
 |row E sz g rows=>
  cases h with
  |row _ _ _ _ v xs h1 h2 h3 h4 h5 h6=>
   rw[Cy]at h2;rw[rE]at h3;refine .row E sz g rows v xs (by rw[Ub];exact h1) h2 ⟨by rw[←h3.1,XF],qD (ρ:=ρ) hM hb ho rows.flatten xs (uf (by simpa[aH]using jO)) (fun j d x hj hx=>h3.2 j d x (by rw[←cR];exact hj) hx)⟩ (fun r hr=>?_) (fun r hr d hd=>?_) (fun g' hg=>by rw[Ub];exact h6 g' hg)
   ·have:=h4 (r.map (ren ρ)) (by rw[en];exact Za (f:=(List.map (ren ρ))) hr);simpa using this
   ·have:=h5 (r.map (ren ρ)) (by rw[en];exact Za (f:=(List.map (ren ρ))) hr) (ren ρ d) (Za hd);rwa [pw]at this
theorem Pw {c c2:Cx}{w:World}{ρ:Nat→Nat}{j:Nat}{ch:Chunk}(hM:∀d x,RepD c.M w d x→RepD c2.M w d x)(hMb:∀b,c2.M b→c.M b)(hb:∀k b,c.bl k=some b→c2.bl (ρ k)=some b)(ho:∀k g u,c.ov k g=some u→c2.ov (ρ k) g=some u)
 (RM:c2.bl (ρ j)=c.bl j) (Ub:c2.ov (ρ j)=c.ov j) (h:ChunkOK c w j ch):ChunkOK c2 w (ρ j) (lA ρ ch):=by
 cases h with
 |none h1 h2=>exact .none (RM.trans h1) (fun g=>by rw[Ub];exact h2 g)
 |gone=>exact .gone
 |mp nB sB ents b hb hh hn=>exact .mp nB sB ents b (RM.trans hb) hh hn
 |it nB sB ents seen b bm hb hh hM hm=>exact .it nB sB ents seen b bm (RM.trans hb) hh (fun h=>hM (hMb _ h)) hm
 |box T cells b vs h1 h2 h3 h4=>
  refine .box T _ b vs (RM.trans h1) h2 (by rw[cR];exact h3.ren hM hb ho) (fun d hd=>?_);rw[cR]at hd;obtain⟨y,hy,rfl⟩:=XH.1 hd;rw[pw];exact h4 y hy
 |row E sz g rows v xs h1 h2 h3 h4 h5 h6=>
  refine .row E sz g _ v xs (by rw[Ub];exact h1) (by rw[Cy];exact h2) (by rw[rE];exact h3.ren hM hb ho) (fun r hr=>?_) (fun r hr d hd=>?_) (fun g' hg=>by rw[Ub];exact h6 g' hg)
  ·rw[en]at hr;obtain⟨y,hy,rfl⟩:=XH.1 hr;rw[XF];exact h4 y hy
  ·rw[en]at hr;obtain⟨y,hy,rfl⟩:=XH.1 hr;obtain⟨z,hz,rfl⟩:=XH.1 hd;rw[pw];exact h5 y hy z hz
theorem zw {c c1:Cx}{ρ:Nat→Nat}{j:Nat}{ch:Chunk}(hb:c1.bl j=c.bl (ρ j))(ho:c1.ov j=c.ov (ρ j)):c1.block j ch=c.block (ρ j) (lA ρ ch):=by
 cases ch<;>simp[Cx.block,lA,hb,ho]
theorem mw:∀(l:List Chunk) (k:Nat),l.length≤k→aw l k= .none
 |[],_,_=>rfl
 |c::l,0,h=>by simp at h
 |c::l,k+1,h=>by simpa[aw]using mw l k (by simpa using h)
theorem RealC.back {X:Cfg}{s:FS}{a:Act}{w w':World}{c c2:Cx}(hc:RealC X s a w c){h0 h1:List Chunk}{ls:List Nat}{nk:Nat}{X1:Cfg}(hX1:X1.w0=w∧X1.m=h0.length∧
 (∀b,X1.L b↔∃j,j < h0.length∧c.block (eh ls nk j) (s.heap (eh ls nk j))=some b)∧(∀b,X1.M0 b↔c.M b∧¬X1.L b)∧(∀j,j < h0.length→X1.c0.bl j=c.bl (eh ls nk j)∧X1.c0.ov j=c.ov (eh ls nk j)))
 (a0V:h0.length≤h1.length) (hl:ls.length=h0.length) (lw:ls.Nodup) (hlt:∀k∈ls,k < nk) (jg:∀i,h0.length+i < h1.length→s.heap (nk+i)= .none) (Kk:X.m≤nk)
 (h:RealC X1 (bG [] h1) IA w' c2) {p:PV}{v:Value} (hp:RepP c2 w' p v):
 ∃c3,RealC X {s with heap:=cz (j0 (eh ls nk) 0 h1) s.heap} a w' c3∧RepP c3 w' (ren (eh ls nk) p) v:=by
 obtain⟨Uc,Ud,hL,hM0,KI⟩:=hX1;generalize hρ:eh ls nk=ρ at*;have inj:∀i j,ρ i=ρ j→i=j:=fun i j e=>by rw[←hρ]at e;exact AU lw hlt e
 have new_id:∀i,ρ (h0.length+i)=nk+i:=fun i=>by rw[←hρ,←hl];exact jZ ls nk i
 have old_id:∀j,j < h0.length→ρ j < nk:=fun j hj=>by rw[←hρ];exact hlt _ (Xl (ng (by omega)))
 have new_none:∀j,h0.length≤j→j < h1.length→s.heap (ρ j)= .none:=fun j h2 h3=>by
  have:=new_id (j - h0.length);rw[show h0.length+(j - h0.length)=j by omega]at this;rw[this];exact jg _ (by omega)
 have iE:=h.lent;rw[Ud]at iE;let c3:Cx:={M:=c2.M,bl:=fun k=>open Classical in if e:∃j,j < h1.length∧ρ j=k then c2.bl e.choose else c.bl k,ov:=fun k=>open Classical in if e:∃j,j < h1.length∧ρ j=k then c2.ov e.choose else c.ov k}
 have in_bl:∀j,j < h1.length→c3.bl (ρ j)=c2.bl j∧c3.ov (ρ j)=c2.ov j:=by
  intro j hj;have e:∃i,i < h1.length∧ρ i=ρ j:=⟨j,hj,rfl⟩;have e2:=inj _ _ e.choose_spec.2;refine⟨?_,?_⟩
  ·show (if e:∃i,i < h1.length∧ρ i=ρ j then c2.bl e.choose else c.bl (ρ j))=_;rw[dif_pos e,e2]
  ·show (if e:∃i,i < h1.length∧ρ i=ρ j then c2.ov e.choose else c.ov (ρ j))=_;rw[dif_pos e,e2]
 have off_bl:∀k,(∀j,j < h1.length→ρ j≠k)→c3.bl k=c.bl k∧c3.ov k=c.ov k:=by
  intro k hk;have e:¬∃j,j < h1.length∧ρ j=k:=fun⟨j,h1,h2⟩=>hk j h1 h2;refine⟨?_,?_⟩
  ·show (if e:∃i,i < h1.length∧ρ i=k then c2.bl e.choose else c.bl k)=_;rw[dif_neg e]
  ·show (if e:∃i,i < h1.length∧ρ i=k then c2.ov e.choose else c.ov k)=_;rw[dif_neg e]
 have far:∀j,h1.length≤j→c2.bl j=none∧∀g,c2.ov j g=none:=by
  intro j hj;have:=h.chunk j;rw[show (bG [] h1).heap j= .none from mw h1 j hj]at this;cases this with|none a b=>exact⟨a,b⟩
 have fwd_b:∀k b,c2.bl k=some b→c3.bl (ρ k)=some b:=by
  intro k b hb;rcases XO k h1.length with hk|hk
  ·rw[(in_bl k hk).1];exact hb
  ·rw[(far k hk).1]at hb;cases hb
 have fwd_o:∀k g u,c2.ov k g=some u→c3.ov (ρ k) g=some u:=by
  intro k g u hu;rcases XO k h1.length with hk|hk
  ·rw[(in_bl k hk).2];exact hu
  ·rw[(far k hk).2]at hu;cases hu
 have lent_bl:∀j,j < h0.length→c2.bl j=c.bl (ρ j)∧∀g u,c.ov (ρ j) g=some u→c2.ov j g=some u:=by
  intro j hj;obtain⟨q1,q2⟩:=iE j hj;obtain⟨q3,q4⟩:=KI j hj;exact⟨q1.trans q3,fun g u hu=>q2 g u (by rw[q4];exact hu)⟩
 have hle:c.le c3:=by
  refine⟨fun k b hb=>?_,fun k g u hu=>?_⟩
  ·by_cases e:∃j,j < h1.length∧ρ j=k
   ·obtain⟨j,hj,rfl⟩:=e;rw[(in_bl j hj).1];rcases XO j h0.length with h2|h2
    ·rw[(lent_bl j h2).1];exact hb
    ·have:=hc.chunk (ρ j);rw[new_none j h2 hj]at this;cases this with|none a b2=>rw[a]at hb;cases hb
   ·rw[(off_bl k fun j hj e2=>e ⟨j,hj,e2⟩).1];exact hb
  ·by_cases e:∃j,j < h1.length∧ρ j=k
   ·obtain⟨j,hj,rfl⟩:=e;rw[(in_bl j hj).2];rcases XO j h0.length with h2|h2
    ·exact(lent_bl j h2).2 g u hu
    ·have:=hc.chunk (ρ j);rw[new_none j h2 hj]at this;cases this with|none a b2=>rw[b2]at hu;cases hu
   ·rw[(off_bl k fun j hj e2=>e ⟨j,hj,e2⟩).2];exact hu
 have blk_in:∀j,j < h1.length→c3.block (ρ j) (cz (j0 ρ 0 h1) s.heap (ρ j))=c2.block j (aw h1 j):=by
  intro j hj;have e:=AV inj (h:=s.heap) h1 0 j hj;rw[XK]at e;rw[e];exact(zw (in_bl j hj).1.symm (in_bl j hj).2.symm).symm
 have blk_off:∀k,(∀j,j < h1.length→ρ j≠k)→cz (j0 ρ 0 h1) s.heap k=s.heap k∧c3.block k (s.heap k)=c.block k (s.heap k):=by
  intro k hk;refine⟨Cz h1 0 fun j hj=>by rw[XK];exact hk j hj,?_⟩;obtain⟨q1,q2⟩:=off_bl k hk;cases s.heap k<;>simp[Cx.block,q1,q2]
 have blk_far:∀j b,c2.block j (aw h1 j)=some b→j < h1.length:=by
  intro j b hb;rcases XO j h1.length with hj|hj
  ·exact hj
  ·rw[mw h1 j hj]at hb;cases hb
 have pV:=h.ext;rw[Uc]at pV;have L_M:∀b,X1.L b→c.M b:=fun b hb=>by
  obtain⟨j,hj,e⟩:=(hL b).1 hb;exact(hc.mu b).2 (.inr ⟨_,e⟩)
 have L_new:∀b,X1.L b→X.L b∨X.w0.heap.size≤b:=fun b hb=>by
  obtain⟨j,hj,e⟩:=(hL b).1 hb;exact(hc.new _ b e).1
 have VX:=h.mu;have ol:Keep c.M w c3.M w':=by
  refine⟨pV.size,fun b hb hm=>pV.block b hb (fun e=>hm (L_M b e)),fun b hb hm=>?_⟩;rcases(VX b).1 hm with h2|⟨k,h2⟩
  ·exact((hM0 b).1 h2).1
  ·rcases(h.new k b h2).1 with h3|h3
   ·exact L_M b h3
   ·rw[Uc]at h3;omega
 have off_L:∀k b,(∀j,j < h1.length→ρ j≠k)→c.block k (s.heap k)=some b→¬X1.L b:=by
  intro k b hk hb hb';obtain⟨j,hj,e⟩:=(hL b).1 hb';exact hk j (by omega) (hc.apart _ _ b e hb)
 refine⟨c3,⟨hc.size,hc.defers,?_,hc.inv,hc.fresh,fun b=>?_,fun k b hb=>?_,fun k k' b hb hb'=>?_,fun t=>(hc.env t).keep hle ol,fun k=>?_,fun k hk=>?_⟩,hp.ren (c2:=c3) (fun _ _ h=>h) fwd_b fwd_o⟩
 ·refine⟨pV.os.trans hc.ext.os,pV.tape.trans hc.ext.tape,pV.output.trans hc.ext.output,Yu hc.ext.size pV.size,fun b hb BK=>?_⟩;refine(pV.block b (Yt hb hc.ext.size) fun e=>?_).trans (hc.ext.block b hb BK);rcases L_new b e with h2|h2
  ·exact BK h2
  ·omega
 ·show c2.M b↔_;rw[VX b,hM0 b,hc.mu b];constructor
  ·rintro (⟨h2|⟨k,h2⟩,h3⟩|⟨j,h2⟩)
   ·exact .inl h2
   ·refine .inr ⟨k,?_⟩;have hk:∀j,j < h1.length→ρ j≠k:=fun j hj e=>by
     subst e;rcases XO j h0.length with h4|h4
     ·exact h3 ((hL b).2 ⟨j,h4,h2⟩)
     ·rw[new_none j h4 hj]at h2;cases h2
    simp only[(blk_off k hk).1,(blk_off k hk).2];exact h2
   ·refine .inr ⟨ρ j,?_⟩;simp only[blk_in j (blk_far j b h2)];exact h2
  ·rintro (h2|⟨k,h2⟩)
   ·refine .inl ⟨.inl h2,fun e=>?_⟩;obtain⟨h3,h4⟩:=hc.fresh b h2;rcases L_new b e with h5|h5
    ·exact h4 h5
    ·omega
   ·simp only at h2;by_cases e:∃j,j < h1.length∧ρ j=k
    ·obtain⟨j,hj,rfl⟩:=e;rw[blk_in j hj]at h2;exact .inr ⟨j,h2⟩
    ·have hk:∀j,j < h1.length→ρ j≠k:=fun j hj e2=>e ⟨j,hj,e2⟩;rw[(blk_off k hk).1,(blk_off k hk).2]at h2;exact .inl ⟨.inr ⟨k,h2⟩,off_L k b hk h2⟩
 ·simp only at hb;by_cases e:∃j,j < h1.length∧ρ j=k
  ·obtain⟨j,hj,rfl⟩:=e;rw[blk_in j hj]at hb;obtain⟨h2,h3⟩:=h.new j b hb;refine⟨?_,h3⟩;rcases h2 with h2|h2
   ·exact L_new b h2
   ·rw[Uc]at h2;exact .inr (Yu hc.ext.size h2)
  ·have hk:∀j,j < h1.length→ρ j≠k:=fun j hj e2=>e ⟨j,hj,e2⟩;rw[(blk_off k hk).1,(blk_off k hk).2]at hb;exact⟨(hc.new k b hb).1,Yt (hc.new k b hb).2 pV.size⟩
 ·simp only at hb hb';have al:∀j k,j < h1.length→(∀j,j < h1.length→ρ j≠k)→c2.block j (aw h1 j)=some b→c.block k (s.heap k)=some b→False:=by
   intro j k hj hk h2 h3;rcases(h.new j b h2).1 with h4|h4
   ·exact off_L k b hk h3 h4
   ·have:=(hc.new k b h3).2;rw[Uc]at h4;omega
  by_cases e:∃j,j < h1.length∧ρ j=k
  ·obtain⟨j,hj,rfl⟩:=e;rw[blk_in j hj]at hb;by_cases e':∃j,j < h1.length∧ρ j=k'
   ·obtain⟨j',hj',rfl⟩:=e';rw[blk_in j' hj']at hb';rw[h.apart j j' b hb hb']
   ·have hk:∀j,j < h1.length→ρ j≠k':=fun j hj e2=>e' ⟨j,hj,e2⟩;rw[(blk_off k' hk).1,(blk_off k' hk).2]at hb';exact(al j k' hj hk hb hb').elim
  ·have hk:∀j,j < h1.length→ρ j≠k:=fun j hj e2=>e ⟨j,hj,e2⟩;rw[(blk_off k hk).1,(blk_off k hk).2]at hb;by_cases e':∃j,j < h1.length∧ρ j=k'
   ·obtain⟨j',hj',rfl⟩:=e';rw[blk_in j' hj']at hb';exact(al j' k hj' hk hb' hb).elim
   ·have hk':∀j,j < h1.length→ρ j≠k':=fun j hj e2=>e' ⟨j,hj,e2⟩;rw[(blk_off k' hk').1,(blk_off k' hk').2]at hb';exact hc.apart k k' b hb hb'
 ·simp only;by_cases e:∃j,j < h1.length∧ρ j=k
  ·obtain⟨j,hj,rfl⟩:=e;have e2:=AV inj (h:=s.heap) h1 0 j hj;rw[XK]at e2;rw[e2];exact Pw (c:=c2) (c2:=c3) (fun _ _ h=>h) (fun _ h=>h) fwd_b fwd_o (in_bl j hj).1 (in_bl j hj).2 (h.chunk j)
  ·have hk:∀j,j < h1.length→ρ j≠k:=fun j hj e2=>e ⟨j,hj,e2⟩;rw[(blk_off k hk).1];exact(hc.chunk k).keep hle ol (fun b hb=>pV.block b (hc.new k b hb).2 (off_L k b hk hb)) (off_bl k hk).1 (off_bl k hk).2
 ·obtain⟨q1,q2⟩:=hc.lent k hk;by_cases e:∃j,j < h1.length∧ρ j=k
  ·obtain⟨j,hj,rfl⟩:=e;have hj0:j < h0.length:=by
    rcases XO j h0.length with h2|h2
    ·exact h2
    ·have:=new_id (j - h0.length);rw[show h0.length+(j - h0.length)=j by omega]at this;omega
   rw[(in_bl j hj).1,(in_bl j hj).2];exact⟨(lent_bl j hj0).1.trans q1,fun g u hu=>(lent_bl j hj0).2 g u (q2 g u hu)⟩
  ·have hk':∀j,j < h1.length→ρ j≠k:=fun j hj e2=>e ⟨j,hj,e2⟩;rw[(off_bl k hk').1,(off_bl k hk').2];exact⟨q1,q2⟩
theorem RealC.lend {X:Cfg}{s:FS}{a:Act}{w:World}{c:Cx}(hc:RealC X s a w c){h0:List Chunk}{ls:List Nat}{nk:Nat}(hl:ls.length=h0.length)(lw:ls.Nodup)(hlt:∀k∈ls,k < nk)(jO:az h0.length h0=true)(iE:aZ s.heap (eh ls nk) 0 h0):
 ∃X1 c1,(X1.P=X.P∧X1.n=0∧X1.m=h0.length)∧(X1.w0=w∧X1.m=h0.length∧
  (∀b,X1.L b↔∃j,j < h0.length∧c.block (eh ls nk j) (s.heap (eh ls nk j))=some b)∧(∀b,X1.M0 b↔c.M b∧¬X1.L b)∧(∀j,j < h0.length→X1.c0.bl j=c.bl (eh ls nk j)∧X1.c0.ov j=c.ov (eh ls nk j)))∧
  RealC X1 (bG [] h0) IA w c1∧(∀(ps:List PV) (vs:List Value),ai h0.length ps=true→bj c w (ig (eh ls nk) ps) vs→bj c1 w ps vs):=by
 generalize hρ:eh ls nk=ρ at*;have inj:∀i j,ρ i=ρ j→i=j:=fun i j e=>by rw[←hρ]at e;exact AU lw hlt e
 let c1:Cx:={M:=c.M,bl:=fun j=>if j < h0.length then c.bl (ρ j)else none,ov:=fun j g=>if j < h0.length then c.ov (ρ j) g else none}
 have b1:∀j,j < h0.length→c1.bl j=c.bl (ρ j)∧c1.ov j=c.ov (ρ j):=fun j hj=>⟨if_pos hj,funext fun g=>if_pos hj⟩;have lent:∀j,j < h0.length→s.heap (ρ j)=lA ρ (aw h0 j):=fun j hj=>by
  have:=zu iE (j:=j) hj;rwa [XK]at this
 have pU:∀j,j < h0.length→c1.block j (aw h0 j)=c.block (ρ j) (s.heap (ρ j)):=fun j hj=>by
  rw[lent j hj];exact zw (b1 j hj).1 (b1 j hj).2
 have far:∀j b,c1.block j (aw h0 j)=some b→j < h0.length:=fun j b hb=>by
  rcases XO j h0.length with hj|hj
  ·exact hj
  ·rw[mw h0 j hj]at hb;cases hb
 have hb:∀j,j < h0.length→∀b,c.bl (ρ j)=some b→c1.bl j=some b:=fun j hj b h=>by rw[(b1 j hj).1];exact h
 have ho:∀j,j < h0.length→∀g u,c.ov (ρ j) g=some u→c1.ov j g=some u:=fun j hj g u h=>by rw[(b1 j hj).2];exact h
 have below_at:∀(l:List Chunk) (j:Nat),az h0.length l=true→aH h0.length (aw l j)=true:=fun l j h=>sY h j;refine⟨{P:=X.P,n:=0,m:=h0.length,w0:=w,M0:=fun b=>c.M b∧¬∃j,j < h0.length∧c.block (ρ j) (s.heap (ρ j))=some b,L:=fun b=>∃j,j < h0.length∧c.block (ρ j) (s.heap (ρ j))=some b,c0:=c1},c1,⟨rfl,rfl,rfl⟩,
  ⟨rfl,rfl,fun b=>Iff.rfl,fun b=>Iff.rfl,fun j hj=>b1 j hj⟩,⟨rfl,rfl,ExtL.refl _ _,hc.ginv.keep ⟨XC _,fun _ _ _=>rfl,fun b _ h=>h.elim And.left fun⟨j,_,hj⟩=>(hc.mu b).2 (.inr ⟨_,hj⟩)⟩,fun b hb=>⟨hc.lt hb.1,hb.2⟩,fun b=>?_,fun k b hk=>?_,fun k k' b hk hk'=>?_,fun t=> .any _,fun k=>?_,fun k _=>⟨rfl,fun _ _ h=>h⟩⟩,fun ps vs kg hr=>?_⟩
 ·show c.M b↔_;by_cases e:∃j,j < h0.length∧c.block (ρ j) (s.heap (ρ j))=some b
  ·constructor
   ·intro _;obtain⟨j,hj,h2⟩:=e;exact .inr ⟨j,by rw[show (bG [] h0).heap j=aw h0 j from rfl,pU j hj];exact h2⟩
   ·intro _;obtain⟨j,hj,h2⟩:=e;exact(hc.mu b).2 (.inr ⟨_,h2⟩)
  ·constructor
   ·intro hm;exact .inl ⟨hm,e⟩
   ·rintro (h2|⟨j,h2⟩)
    ·exact h2.1
    ·have hj:=far j b h2;exact absurd ⟨j,hj,by rw[←pU j hj];exact h2⟩ e
 ·have hj:=far k b hk;have h2:c.block (ρ k) (s.heap (ρ k))=some b:=by rw[←pU k hj];exact hk
  exact⟨.inl ⟨k,hj,h2⟩,(hc.new _ b h2).2⟩
 ·have hj:=far k b hk;have hj':=far k' b hk';have h2:c.block (ρ k) (s.heap (ρ k))=some b:=by rw[←pU k hj];exact hk
  have h3:c.block (ρ k') (s.heap (ρ k'))=some b:=by rw[←pU k' hj'];exact hk'
  exact inj _ _ (hc.apart _ _ b h2 h3)
 ·rcases XO k h0.length with hk|hk
  ·have bD:=hc.chunk (ρ k);rw[lent k hk]at bD;exact SU (c:=c) (c1:=c1) (ρ:=ρ) (fun _ _ h=>h) (fun _ h=>h) hb ho (b1 k hk).1 (b1 k hk).2 (below_at h0 k jO) bD
  ·rw[show (bG [] h0).heap k= .none from mw h0 k hk];exact .none (if_neg (by omega)) fun g=>if_neg (by omega)
 ·exact⟨by rw[←hr.1,cR,XF],qD (c:=c) (c1:=c1) (ρ:=ρ) (fun _ _ h=>h) hb ho ps vs kg hr.2⟩
theorem ug {h h':Nat→Chunk}{ρ:Nat→Nat}:∀{l:List Chunk}{i:Nat},aZ h ρ i l→(∀j,j < l.length→h' (ρ (i+j))=h (ρ (i+j)))→aZ h' ρ i l
 |[],_,_,_=>trivial
 |c::l,i,⟨h1,h2⟩,hs=>⟨(hs 0 (by simp)).trans h1,ug h2 fun j hj=>by
  have:=hs (j+1) (by simpa using hj);rw[show i+1+j=i+(j+1) by omega];exact this⟩
theorem CA {X:Cfg}{ops:Array Oper}{s:FS}{o:Oper}(hd:∀d,o.dst=some d→d < X.n){fo:Operand}{args:Array Operand}{tys:Array Nat}{g:Nat}{caps margs:List PV}{h0 h1:List Chunk}{r:PV}{ls:List Nat}{nk:Nat}(ho:o.op= .call {callee:= .value fo,args:=args,argTypes:=tys})
 (hf:ev s fo= .clo g caps∨∃cd:List D,ev s fo= .d (.clo g cd)∧caps=cd.map .d) (hM:MSpec X.P g margs h0 r h1) (ha:args.toList.map (ev s)++caps=ig (eh ls nk) margs)
 (hl:ls.length=h0.length) (lw:ls.Nodup) (hlt:∀k∈ls,k < nk) (iE:aZ s.heap (eh ls nk) 0 h0) (jg:∀i,h0.length+i < h1.length→s.heap (nk+i)= .none) (Kk:X.m≤nk):
 bv X ops s o {pv:=ren (eh ls nk) r,eff:=j0 (eh ls nk) 0 h1,touch:=(X3 h1.length).map (eh ls nk)}:=by
 refine⟨hd,fun kc h=>?_,fun s' he gz a w hr K Q hK=>?_⟩
 ·have h2:=Za (f:=(·.1)) h;rw[sZ]at h2;simpa using h2
 obtain⟨c,hc⟩:=hr;have fl:∀j,j < h1.length→s'.heap (eh ls nk j)=s.heap (eh ls nk j):=fun j hj=>gz _ (Za (YP.2 hj));have Ue:=ug (h':=s'.heap) iE fun j hj=>by
  rw[XK];exact fl j (Yt hj hM.le)
 have VY:∀i,h0.length+i < h1.length→s'.heap (nk+i)= .none:=fun i hi=>by
  have:=jZ ls nk i;rw[hl]at this;rw[←this,fl _ hi,this];exact jg i hi
 have tX:∀x,(x=fo∨x∈args)→ev s' x=ev s x:=fun x hx=>AJ he x (by
  rw[ho];simp only[Op.operands,Call.operands];rcases hx with rfl|hx
  ·simp
  ·simp[hx])
 obtain⟨fvs,T9,vd,EN⟩:∃fvs:List Value,a.eval fo= .func (.func g) #[] fvs.toArray∧caps.length=fvs.length∧∀(j:Nat) (p:PV) (x:Value),caps[j]? =some p→fvs[j]? =some x→RepP c w p x:=by
  have h0:=bF hc fo;rw[tX fo (.inl rfl)]at h0;rcases hf with hf|⟨cd,hf,rfl⟩
  ·rw[hf]at h0;generalize a.eval fo=u at h0;cases h0 with
   |clo _ _ vs hl aY=>exact⟨vs,rfl,hl,aY⟩
  ·rw[hf]at h0;generalize a.eval fo=u at h0;have h0:=bS h0;cases h0 with
   |clo _ _ vs hl aY=>
    refine⟨vs,rfl,by simpa using hl,fun j p x hj hx=>?_⟩;simp only[XA,XG]at hj;obtain⟨y,hy,rfl⟩:=hj;exact .d _ _ (aY j y x hy hx)
 have Ax:bj c w (ig (eh ls nk) margs) (args.toList.map a.eval++fvs):=by
  rw[←ha];refine⟨by simp[vd],fun j p x hp hx=>?_⟩;by_cases hlt:j < args.toList.length
  ·rw[X5 (by simpa using hlt)]at hp hx;simp only[XA,XG]at hp hx;obtain⟨y,hy,rfl⟩:=hp;obtain⟨y',hy',rfl⟩:=hx;rw[hy]at hy';cases hy';have:=bF hc y;rwa [tX y (.inr (by simpa using Xl hy))]at this
  ·rw[XP (by simpa using hlt)]at hp hx;simp only[XF]at hp hx;exact EN _ p x hp hx
 obtain⟨X1,c1,⟨e1,e2,e3⟩,hX1,xV,kg⟩:=hc.lend hl lw hlt hM.bh Ue;have iD:=hM.run X1 e1 e2 e3 w c1 (args.toList.map a.eval++fvs) xV (kg _ _ hM.ba Ax);have b9:(execOp a.eval o).run X.P w= .ok (.enter g (args.toList.map a.eval++fvs).toArray) w:=by
  have e:(args.toList.map a.eval++fvs).toArray=args.map a.eval++fvs.toArray:=by
   apply Z9;simp
  rw[e];simp[execOp,ho,resolve,T9,Deferred.ofValue,invoke];exact hM.fn _ _
 unfold Oper.wp;rw[b9,Oper.upon_enter];refine iD.mono ?_;rintro e w' ⟨v,c2,rfl,hv,yi⟩;obtain⟨c3,g1,g2⟩:=hc.back hX1 hM.le hl lw hlt VY Kk yi hv;exact hK v w' ⟨c3,g1.put g2 hd⟩
theorem zx:∀{eff:List (Nat × Chunk)}{h:Nat→Chunk},(∀kc∈eff,h kc.1=kc.2)→cz eff h=h
 |[],_,_=>rfl
 |(k,c)::l,h,hs=>by
  funext k';simp only[cz];split
  ·rename_i e;subst e;exact(hs (k',c) (p' ..)).symm
  ·rw[zx fun kc hk=>hs kc (by simp[hk])]
theorem Px {X:Cfg}{ops:Array Oper}{s:FS}{o:Oper}{r:Res}(h:bv X ops s o r)(he:∀kc∈r.eff,s.heap kc.1=kc.2):bv X ops s o {r with eff:=[]}:=by
 refine⟨h.1,by simp,fun s' h1 h2 a w hr K Q hK=>h.2.2 s' h1 h2 a w hr K Q fun v w' hr'=>hK v w' ?_⟩;have:cz r.eff s'.heap=s'.heap:=zx fun kc hk=>by rw[h2 _ (h.2.1 kc hk)];exact he kc hk
 have e2:s'.app o.dst r=s'.app o.dst {r with eff:=[]}:=by
  unfold FS.app;rw[this];rfl
 rw[←e2];exact hr'
theorem zy {h:Nat→Chunk}{ρ:Nat→Nat}:∀{l:List Chunk}{i:Nat},aZ h ρ i l→∀kc∈j0 ρ i l,h kc.1=kc.2
 |[],_,_,kc,hk=>by simp[j0]at hk
 |c::l,i,⟨h1,h2⟩,kc,hk=>by
  simp only[j0,XY]at hk;rcases hk with rfl|hk
  ·exact h1
  ·exact zy h2 kc hk
theorem Ly {X:Cfg}{ops:Array Oper}{s:FS}{o:Oper}(hd:∀d,o.dst=some d→d < X.n){fo:Operand}{args:Array Operand}{tys:Array Nat}{g:Nat}{caps margs:List PV}{h0:List Chunk}{r:PV}{ls:List Nat}{nk:Nat}(ho:o.op= .call {callee:= .value fo,args:=args,argTypes:=tys})
 (hf:ev s fo= .clo g caps∨∃cd:List D,ev s fo= .d (.clo g cd)∧caps=cd.map .d) (hM:MSpec X.P g margs h0 r h0) (ha:args.toList.map (ev s)++caps=ig (eh ls nk) margs)
 (hl:ls.length=h0.length) (lw:ls.Nodup) (hlt:∀k∈ls,k < nk) (iE:aZ s.heap (eh ls nk) 0 h0) (Kk:X.m≤nk):
 bv X ops s o {pv:=ren (eh ls nk) r,eff:=[],touch:=(X3 h0.length).map (eh ls nk)}:=
 Px (CA hd ho hf hM ha hl lw hlt iE (fun i hi=>by omega) Kk) (zy iE)
theorem oJ (s:Bool):∀(l:List (List Int × Int)) (j i:Nat),(aX s l j)[i]? =(l[i]?).map fun kv=>{key:=iH s kv.1,val:= .int .i64 kv.2,born:=j+i}
 |[],j,i=>by simp[aX]
 |(k,v)::l,j,0=>by simp[aX]
 |(k,v)::l,j,i+1=>by
  simp only[aX,YJ];rw[oJ s l (j+1) i];simp only[show j+1+i=j+(i+1) by omega]
theorem j1 (s:Bool):∀(l:List (List Int × Int)) (j:Nat),∀x∈aX s l j,j≤x.born∧x.born < j+l.length
 |[],j,x,hx=>by simp[aX]at hx
 |(k,v)::l,j,x,hx=>by
  simp only[aX,XY]at hx;rcases hx with rfl|hx
  ·simp
  ·have:=j1 s l (j+1) x hx;simp only[XD];omega
theorem qa (s:Bool):∀(l:List (List Int × Int)) (j:Nat),((aX s l j).map (·.born)).Nodup
 |[],j=>by simp[aX]
 |(k,v)::l,j=>by
  simp only[aX,Xm,List.nodup_cons,XH,not_exists,not_and];exact⟨fun x hx e=>by have:=(j1 s l (j+1) x hx).1;omega,qa s l (j+1)⟩
theorem RealC.range {X:Cfg}{s:FS}{a:Act}{w:World}{c:Cx}(h:RealC X s a w c){k nk n b:Nat}{sB:Bool}{ents:List (List Int × Int)}(hk:s.heap k= .mp n sB ents)(VZ:s.heap nk= .none)(Kk:¬nk < X.m)(hb:c.bl k=some b)(hh:w.heap[b]? =some (.map (aX sB ents 0).toArray ents.length)):
 ∃c',RealC X {s with heap:=cz [(nk,.it n sB ents []),(k,.gone)] s.heap} a (w.alloc (.mapIter (some b) ents.length #[] ents.length)) c'∧RepP c' (w.alloc (.mapIter (some b) ents.length #[] ents.length)) (.ptr nk 0) (.pointer (some ⟨w.heap.size,0,none⟩)):=by
 have h1:=h.freeze [k];have bH:nk≠k:=fun e=>by rw[e,hk]at VZ;cases VZ
 have V0:cz ([k].map fun k=>(k,Chunk.gone)) s.heap nk= .none:=by
  simp only[Xm,Xx,cz,if_neg bH];exact VZ
 have bD:=h1.chunk nk;simp only at bD;rw[V0]at bD;have hlt:b < w.heap.size:=(Yq.1 hh).1;cases bD with
 |none GC VO=>
  have hx:=iS w (.mapIter (some b) ents.length #[] ents.length);have dv:(fun k'=>if k'=nk then some w.heap.size else c.bl k') nk=some w.heap.size:=if_pos rfl;refine⟨{M:=fun b=>lF c s.heap [k] b∨b=w.heap.size,bl:=fun k'=>if k'=nk then some w.heap.size else c.bl k',ov:=c.ov},?_,.ptr nk 0 _ dv⟩;refine h1.new_chunk (ch:= .it n sB ents []) V0 Kk hx ⟨fun k' b hb=>?_,fun _ _ _ h=>h⟩ (fun k' bH=>if_neg bH) (fun _ _=>rfl) (fun b=>?_) (fun b hb=>?_) (fun ol=>?_)
  ·have:k'≠nk:=fun e=>by subst e;rw[GC]at hb;cases hb
   show (if k'=nk then some w.heap.size else c.bl k')=some b;rw[if_neg this];exact hb
  ·simp only[Cx.block,if_true,XX.injEq];exact⟨fun h=>h.imp id Eq.symm,fun h=>h.imp id Eq.symm⟩
  ·simp only[Cx.block,if_true,XX.injEq]at hb;rw[size_alloc];omega
  ·refine .it n sB ents [] w.heap.size b dv (jm w _) (fun hM=>?_) (by rw[hx.block b hlt];exact hh);rcases hM with hM|hM
   ·exact hM.2 k (by simp) (by rw[hk];exact hb)
   ·omega
section
variable {X:Cfg}{ops:Array Oper}{s:FS}{o:Oper}(hd:∀d,o.dst=some d→d < X.n)
include hd
theorem Lz {t k nk n:Nat}{sB:Bool}{m:Operand}{ents:List (List Int × Int)}(ho:o.op= .range t m)(hm:MapOK X.P t n sB)(VU:ev s m= .mref k)(hk:s.heap k= .mp n sB ents)(VZ:s.heap nk= .none)(uF:¬nk < X.m):
 bv X ops s o {pv:= .ptr nk 0,eff:=[(nk,.it n sB ents []),(k,.gone)],touch:=[k,nk]}:=
 dJ hd (fun kc h=>by simp at h;rcases h with rfl|rfl<;>simp) fun s' he gz a w c hc=>by
  have e1:=bF hc m;rw[he m (by simp[ho,Op.operands]),VU]at e1;have hk':s'.heap k= .mp n sB ents:=by rw[gz k (by simp)];exact hk
  have bD:=hc.chunk k;rw[hk']at bD;generalize hu:a.eval m=u at e1;cases e1 with
  |mref _ b hb=>
   cases bD with
   |mp _ _ _ b' hb' hh hn=>
    rw[hb]at hb';cases hb';obtain⟨c',h1,h2⟩:=hc.range hk' (by rw[gz nk (by simp)];exact VZ) uF hb hh;obtain⟨kt,et,i,hut,-⟩:=hm;refine⟨_,_,_,?_,.inl rfl,c',h1,h2⟩;simp only[execOp,ho,hu];rw[Sem.run_bind,run_range_map w t kt et b _ _ hut hh];rfl
theorem LB {k n i:Nat}{sB:Bool}{x:Operand}{ents:List (List Int × Int)}{seen:List Nat}{kv:List Int × Int}(ho:o.op= .entry x)(hx:ev s x= .ptr k 0)(hk:s.heap k= .it n sB ents seen)(hl:seen.getLast? =some i)(hi:ents[i]? =some kv):
 bv X ops s o {pv:= .tup [.any,.d (.v (.int .i64 kv.2))],touch:=[k]}:=
 aB hd fun s' he gz a w c hc=>by
  have e1:=bF hc x;rw[he x (by simp[ho,Op.operands]),hx]at e1;have hk':s'.heap k= .it n sB ents seen:=by rw[gz k (by simp)];exact hk
  have bD:=hc.chunk k;rw[hk']at bD;generalize hu:a.eval x=u at e1;cases e1 with
  |ptr _ _ b hb=>
   cases bD with
   |it _ _ _ _ b' bm hb' hh hM hm=>
    rw[hb]at hb';cases hb';obtain⟨pre,rfl⟩:∃pre,seen=pre++[i]:=by
     rw[List.getLast?_eq_some_iff]at hl;exact hl
    have hg:=oJ sB ents 0 i;rw[hi]at hg;have hh2:w.heap[b]? =some (.mapIter (some bm) ents.length (pre.toArray.push i) ents.length):=by rw[hh];simp
    have b9:=run_entry_at (P:=X.P) w b bm ents.length pre.toArray (aX sB ents 0).toArray ents.length {key:=iH sB kv.1,val:= .int .i64 kv.2,born:=i} hh2 hm (by
     have:=Xl hg;simpa using this) (by simpa using qa sB ents 0)
    refine⟨.tuple #[iH sB kv.1,.int .i64 kv.2],?_,.tup _ [iH sB kv.1,.int .i64 kv.2] rfl ?_⟩
    ·simp only[execOp,ho,hu];rw[Sem.run_bind,b9];rfl
    ·intro j d y h1 h2;match j with
     |0=>simp at h1 h2;subst h1;exact .any _
     |1=>simp at h1 h2;subst h1;subst h2;exact .d _ _ (.v _)
     |j+2=>simp at h1
end
theorem Py {a b:ByteArray}:(a.toList==b.toList)=decide (a=b):=by
 rw[J',J',Yl,beq_iff_eq,decide_eq_true_iff];exact⟨fun h=>ZL (Z9 h),fun h=>by rw[h]⟩
def AW (s:ByteArray)(i:Nat):Int:=((s.data.toList.getD i 0).toNat:Int)
theorem Fx {s:ByteArray}{i:Nat}(h:i < s.size):s[i]? =some (s.data.toList.getD i 0):=by
 have h2:i < s.data.size:=h;rw[getElem?_pos s i h];congr 1;rw[XE,X2,YN h2];rfl
def oK:List (List D)→Option (List Int)
 |[]=>some []
 |[.v (.int .u8 n)]::l=>(oK l).map (n:: ·)
 |_=>none
theorem zA:∀{rows:List (List D)}{xs:List Int},oK rows=some xs→rows=xs.map fun n=>[.v (.int .u8 n)]
 |[],xs,h=>by simp[oK]at h;subst h;rfl
 |r::rows,xs,h=>by
  unfold oK at h;split at h
  ·rename_i e;cases e
  ·rename_i n l e;cases e;cases hb:oK rows with
   |none=>rw[hb]at h;cases h
   |some ys=>
    rw[hb]at h;cases h;rw[zA hb];rfl
  ·cases h
section
variable {X:Cfg}{ops:Array Oper}{s:FS}{o:Oper}(hd:∀d,o.dst=some d→d < X.n)
include hd
theorem IB {t t':Nat}{x y:Operand}{a b:ByteArray}(ho:o.op= .binOp .add t x y t')(hx:ev s x= .d (.v (.string a)))(hy:ev s y= .d (.v (.string b)))(hl:a.size+b.size≤9223372036854775807):
 bv X ops s o {pv:= .d (.v (.string (a++b)))}:=
 aB hd fun s' he _ ac w c hc=>by
  have h1:=cY hc ((he x (by simp[ho,Op.operands])).trans hx);have h2:=cY hc ((he y (by simp[ho,Op.operands])).trans hy);have hr:=run_string_add_sum (P:=X.P) w a b (by omega);refine⟨.string (a++b),?_,.d _ _ (.v _)⟩;simp[execOp,ho,h1,h2,eqGuard,binOp,hr]
theorem CB {op:BinOp}{t t':Nat}{x y:Operand}{a b:ByteArray}{r:Bool}(ho:o.op= .binOp op t x y t')(hx:ev s x= .d (.v (.string a)))(hy:ev s y= .d (.v (.string b)))(hr:(op= .eql∧r=decide (a=b))∨(op= .neq∧r=!decide (a=b))):
 bv X ops s o {pv:= .d (.v (.bool r))}:=
 aB hd fun s' he _ ac w c hc=>by
  have h1:=cY hc ((he x (by simp[ho,Op.operands])).trans hx);have h2:=cY hc ((he y (by simp[ho,Op.operands])).trans hy);refine⟨.bool r,?_,.d _ _ (.v _)⟩;rcases hr with⟨rfl,rfl⟩|⟨rfl,rfl⟩<;>simp[execOp,ho,h1,h2,eqGuard,binOp,Op.stringOp,Py]
theorem IC {t:Nat}{x:Operand}{a:ByteArray}{ti:TI}(ho:o.op= .call {callee:= .builtin .len,args:=#[x],argTypes:=#[t]})(ht:aJ X.P t=some ti)(hk:ti.kind=2)(hx:ev s x= .d (.v (.string a))):
 bv X ops s o {pv:= .d (.v (.int .i64 a.size))}:=
 aB hd fun s' he _ ac w c hc=>by
  have h1:=cY hc ((he x (by simp[ho,Op.operands,Call.operands])).trans hx);obtain⟨i,d,z,tk⟩:=gC ht;have jP:d= .string:=by
   have:=tk.kind;rw[hk]at this;cases d<;>simp[p6]at this;rfl
  subst jP;refine⟨.int .i64 a.size,?_,.d _ _ (.v _)⟩;simp[execOp,ho,h1,resolve,invoke,builtin,Builtin.len_,run_underlying tk.und,goInt]
theorem CC {t:Nat}{x y:Operand}{a:ByteArray}{k:IntKind}{n:Int}{ti:TI}(ho:o.op= .index t x y)(ht:aJ X.P t=some ti)(hk:ti.kind=2)(hx:ev s x= .d (.v (.string a)))(hy:ev s y= .d (.v (.int k n)))(hn:0≤n)(hlt:n.toNat < a.size):
 bv X ops s o {pv:= .d (.v (.int .u8 (AW a n.toNat)))}:=
 aB hd fun s' he _ ac w c hc=>by
  have h1:=cY hc ((he x (by simp[ho,Op.operands])).trans hx);have h2:=cY hc ((he y (by simp[ho,Op.operands])).trans hy);obtain⟨i,d,z,tk⟩:=gC ht;have jP:d= .string:=by
   have:=tk.kind;rw[hk]at this;cases d<;>simp[p6]at this;rfl
  subst jP;refine⟨.int .u8 (AW a n.toNat),?_,.d _ _ (.v _)⟩;simp[execOp,ho,h1,h2,Instr.index,asIntOf,run_underlying tk.und,hn,Fx hlt,AW]
theorem CD {t:Nat}{x:Operand}{lo hi:Option Operand}{a:ByteArray}{ti:TI}{l h:Nat}(ho:o.op= .slice t x lo hi none)(ht:aJ X.P t=some ti)(hk:ti.kind=2)
 (hx:ev s x= .d (.v (.string a))) (jV:GZ (lo.map (ev s))=some l) (lX:G0 a.size (hi.map (ev s))=some h) (h1:l≤h) (h2:h≤a.size):bv X ops s o {pv:= .d (.v (.string (a.extract l h)))}:=
 aB hd fun s' he _ ac w c hc=>by
  have e1:=cY hc ((he x (by simp[ho,Op.operands])).trans hx);rw[←vQ (s:=s) (s':=s') (fun y hy=>he y (by simp[ho,Op.operands,hy]))]at jV lX;have b1:=oG hc jV;have b2:=oH hc lX;obtain⟨i,d,z,tk⟩:=gC ht;have jP:d= .string:=by
   have:=tk.kind;rw[hk]at this;cases d<;>simp[p6]at this;rfl
  subst jP;refine⟨.string (a.extract l h),?_,.d _ _ (.v _)⟩;have g1:(0:Int)≤(l:Int):=by omega
  have g2:(0:Int)≤(h:Int):=by omega
  have g3:(l:Int)≤(h:Int):=by omega
  have g4:(h:Int)≤(a.size:Int):=by omega
  simp only[execOp,ho,e1,Zi];generalize lo.map ac.eval=lo' at b1;generalize hi.map ac.eval=hi' at b2;rcases b1 with⟨rfl,rfl⟩|⟨k,rfl⟩<;>rcases b2 with⟨rfl,rfl⟩|⟨k',rfl⟩<;>
   simp[Instr.sliceAt,Instr.slice,run_underlying tk.und,Instr.sliceBounds,Instr.sliceBound,asIntOf,g1,g2,g3,g4,h1,h2,Nat.not_lt.2 h1,Nat.not_lt.2 h2]
theorem CE {src dst e:Nat}{x:Operand}{rows:List (List D)}{xs:List Int}{ts td te:TI}(ho:o.op= .convert src dst x)(hs:aJ X.P src=some ts)(ht:aJ X.P dst=some td)(he':ts.elem=some e)(fT:aJ X.P e=some te)(hi:te.int=some .u8)(hk:td.kind=2)
 (hx:ev s x= .d (.sl 1 rows)) (hb:oK rows=some xs):bv X ops s o {pv:= .d (.v (.string (strOfNums xs)))}:=
 aB hd fun s' he _ ac w c hc=>by
  have e1:=bF hc x;rw[he x (by simp[ho,Op.operands]),hx]at e1;generalize hu:ac.eval x=u at e1;have e1:=bS e1;obtain⟨i,d,z,tk⟩:=gC hs;obtain⟨i2,d2,z2,tk2⟩:=gC ht;obtain⟨i3,d3,z3,tk3⟩:=gC fT;have ES:d= .slice e:=by
   have:=tk.elem;rw[he']at this;cases d<;>simp[fB]at this;rw[this]
  have B6:d2= .string:=by
   have:=tk2.kind;rw[hk]at this;cases d2<;>simp[p6]at this;rfl
  have RN:d3= .int .u8:=by
   have:=tk3.int;rw[hi]at this;cases d3<;>simp[Pq]at this;rw[this]
  subst ES B6 RN;have OA:=zA hb;refine⟨.string (strOfNums xs),?_,.d _ _ (.v _)⟩;cases e1 with
  |nil _ ao cap hm=>
   have:xs=[]:=by cases xs with|nil=>rfl|cons a l=>simp at OA
   subst this;simp only[execOp,ho,hu];rw[Sem.run_bind,run_convert_bytes_string w src dst e ao 0 cap tk.und tk3.und tk2.und];cases ao with
   |none=>rfl
   |some a=>
    have hl:(loadCells a 0).run X.P w= .ok (([]:List Int).map (Value.int .u8)).toArray w:=by simp[loadCells,loadCellsFrom]
    rw[run_bytesToString w a 0 cap [] hl];rfl
  |sl _ _ b off cap f hM rc gA hm hr h1' bY aY=>
   have aT:rows.length=xs.length:=by rw[OA,XF]
   have hce:∀i,i < rows.length→w.cell? ⟨b,off+i,none⟩=some (.int .u8 (xs.getD i 0)):=fun i hi=>by
    have h0:=bY i 0 hi (by omega);rw[Nat.mul_one,X0]at h0;rw[h0];obtain⟨n,hn⟩:∃n,xs[i]? =some n:=⟨_,Xj (by omega)⟩;have h2:=aY i 0 [.v (.int .u8 n)] (.v (.int .u8 n)) (by rw[OA,XA,hn];rfl) rfl;rw[XE,hn,Yy];generalize f i 0=fv at h2;cases h2;rfl
   have hr':=run_convert_bytes_arg (P:=X.P) w src e tk.und tk3.und b off rows.length cap xs aT.symm hce dst tk2.und;simp only[execOp,ho,hu];rw[Sem.run_bind,hr'];rfl
theorem Fy {t e n sz k off:Nat}{x y:Operand}{kd:IntKind}{i:Int}{ti te:TI}(ho:o.op= .indexAddr t x y)(ht:aJ X.P t=some ti)(ha:ti.arr=some (n,e))(fT:aJ X.P e=some te)(cM:te.size=sz)
 (hx:ev s x= .ptr k off) (hy:ev s y= .d (.v (.int kd i))) (hi:0≤i) (hlt:i.toNat < n):bv X ops s o {pv:= .ptr k (off+i.toNat*sz)}:=
 aB hd fun s' he _ ac w c hc=>by
  have e1:=bF hc x;rw[he x (by simp[ho,Op.operands]),hx]at e1;have e2:=cY hc ((he y (by simp[ho,Op.operands])).trans hy);generalize hu:ac.eval x=u at e1;obtain⟨ii,d,z,tk⟩:=gC ht;obtain⟨ie,de,ze,tke⟩:=gC fT;have jP:d= .array n e:=by
   have:=tk.arr;rw[ha]at this;cases d<;>simp[Lh]at this;rw[this.1,this.2]
  subst jP;cases e1 with
  |ptr _ _ b hb=>
   have sD:0≤i∧i < (n:Int):=⟨hi,by omega⟩;refine⟨.pointer (some ⟨b,off+i.toNat*sz,none⟩),?_,.ptr k _ b hb⟩;simp[execOp,ho,hu,e2,Instr.indexAt,Instr.sureAddr,asIntOf,run_underlying tk.und,sD,sizeOf,typeInfo,tke.info,tke.size,cM,Addr.add_lit]
theorem CF {t e n:Nat}{x y:Operand}{kd:IntKind}{i:Int}{ti te:TI}{ds:List D}{q:D}(ho:o.op= .index t x y)(ht:aJ X.P t=some ti)(ha:ti.arr=some (n,e))(fT:aJ X.P e=some te)(cM:te.size=1)(pQ:te.agg=false)
 (hx:ev s x= .d (.agg ds)) (hy:ev s y= .d (.v (.int kd i))) (hi:0≤i) (hlt:i.toNat < n) (hq:ds[i.toNat]? =some q):bv X ops s o {pv:= .d q}:=
 aB hd fun s' he _ ac w c hc=>by
  have e1:=bF hc x;rw[he x (by simp[ho,Op.operands]),hx]at e1;have e2:=cY hc ((he y (by simp[ho,Op.operands])).trans hy);generalize hu:ac.eval x=u at e1;obtain⟨ii,d,z,tk⟩:=gC ht;obtain⟨ie,de,ze,tke⟩:=gC fT;have jP:d= .array n e:=by
   have:=tk.arr;rw[ha]at this;cases d<;>simp[Lh]at this;rw[this.1,this.2]
  subst jP;have e1:=bS e1;cases e1 with
  |agg _ vs hl h1 aY=>
   have sD:0≤i∧i < (n:Int):=⟨hi,by omega⟩;have pY:i.toNat < vs.length:=by rw[←hl];exact(Xo.1 hq).1
   have Kh:(isAgg e).run X.P w= .ok false w:=by
    unfold isAgg;rw[Sem.run_bind,run_underlying tke.und w];have:=tke.agg;rw[pQ]at this;cases de<;>simp[Pp]at this ⊢
   refine⟨vs[i.toNat],?_,.d _ _ (aY i.toNat q _ hq (Xj pY))⟩;simp[execOp,ho,hu,e2,Instr.index,asIntOf,run_underlying tk.und,sD,sizeOf,typeInfo,tke.info,tke.size,cM,part,Kh,Xj pY]
theorem CG {t n e:Nat}{parts:Array (Nat × Operand)}{ti te:TI}{pd:List (Nat × List PV)}{out:List PV}(ho:o.op= .build t parts)(ht:aJ X.P t=some ti)(ha:ti.arr=some (n,e))(fT:aJ X.P e=some te)
 (hp:pd.length=parts.size) (hq:∀(j:Nat) (i:Nat) (x:Operand),parts[j]? =some (i,x)→pd[j]? =some (i,cN (ev s x))∧zn (ev s x)=true) (hf:p8 ((X3 n).map fun i=>(i*te.size,te.size)) (ti.zero.map fun x=> .d (.v x)) pd=some out):
 bv X ops s o {pv:=sS out}:=by
 obtain⟨ii,d,z,tk⟩:=gC ht;obtain⟨ie,de,ze,tke⟩:=gC fT;have jP:d= .array n e:=by
  have:=tk.arr;rw[ha]at this;cases d<;>simp[Lh]at this;rw[this.1,this.2]
 subst jP;refine zo hd ho ht (place:=fun i=>some (i*te.size,te.size)) (fun i p h=>?_) (fun ps=>?_) hp hq hf
 ·rw[XA,XG]at h;obtain⟨m,hm,rfl⟩:=h;have:=(Xo.1 hm).2;simp at this;rw[this]
 ·unfold Program.built;have:z.cells=ti.zero.toArray:=by rw[←tk.zcells]
  simp only[tk.info,tk.und,tk.zero,tke.info,tke.size,this]
omit hd in
theorem AX {P:Program}{t:Nat}{ms:Array (String × TypeId)}(h:P.underlying t=some (.interface ms))(d:D)(M:Nat→Prop)(w:World)(v:Value)(hv:RepD M w d v)(hn:d= .nei∨d= .v .nilIface):
 (Op.equal t v .nilIface).run P w= .ok (match d with| .nei=>false|_=>true) w:=by
 unfold Op.equal;rcases hn with rfl|rfl
 ·cases hv;show (Op.equalIn (9999+1) t _ .nilIface).run P w=_;rw[Op.equalIn,Sem.run_bind,run_underlying h];rfl
 ·cases hv;show (Op.equalIn (9999+1) t .nilIface .nilIface).run P w=_;rw[Op.equalIn,Sem.run_bind,run_underlying h];rfl
theorem rF {op:BinOp}{t t':Nat}{x:Operand}{d:D}{ti:TI}{r:Bool}(ho:o.op= .binOp op t x (.const .nilIface) t')(ht:aJ X.P t=some ti)(hk:ti.kind=5)(hx:ev s x= .d d)(hn:d= .nei∨d= .v .nilIface)
 (hr:(op= .eql∧r=(match d with| .nei=>false|_=>true))∨(op= .neq∧r=!(match d with| .nei=>false|_=>true))):bv X ops s o {pv:= .d (.v (.bool r))}:=
 aB hd fun s' he _ ac w c hc=>by
  have e1:=bF hc x;rw[he x (by simp[ho,Op.operands]),hx]at e1;generalize hu:ac.eval x=u at e1;have e1:=bS e1;obtain⟨i,dd,z,tk⟩:=gC ht;have jP:∃ms,dd= .interface ms:=by
   have:=tk.kind;rw[hk]at this;cases dd<;>simp[p6]at this;exact⟨_,rfl⟩
  obtain⟨ms,rfl⟩:=jP;have hq:=AX tk.und d _ w u e1 hn;have hg:eqGuard op t x (.const .nilIface) u .nilIface=pure ():=by
   rcases hn with rfl|rfl
   ·cases e1;rcases hr with⟨rfl,-⟩|⟨rfl,-⟩<;>rfl
   ·cases e1;exact eqGuard_nil_constR _ _ _ _
  refine⟨.bool r,?_,.d _ _ (.v _)⟩;have hb:(binOp op t u .nilIface).run X.P w= .ok (.bool r) w:=by
   rcases hn with rfl|rfl
   ·cases e1;rcases hr with⟨rfl,rfl⟩|⟨rfl,rfl⟩<;>simp[binOp,hq]
   ·cases e1;rcases hr with⟨rfl,rfl⟩|⟨rfl,rfl⟩<;>simp[binOp,hq]
  have mX:ac.eval (.const .nilIface)= .nilIface:=rfl;simp[execOp,ho,hu,mX,hg,hb]
theorem CH {op:BinOp}{t t':Nat}{x y:Operand}{k k':IntKind}{m n:Int}{r:Value}(ho:o.op= .binOp op t x y t')(l9:op= .shl∨op= .shr)(hx:ev s x= .d (.v (.int k m)))(hy:ev s y= .d (.v (.int k' n)))(hr:AK op k m n=some r):
 bv X ops s o {pv:= .d (.v r)}:=
 aB hd fun s' he _ a w c hc=>by
  have h1:=cY hc ((he x (by simp[ho,Op.operands])).trans hx);have h2:=cY hc ((he y (by simp[ho,Op.operands])).trans hy);refine⟨r,?_,.d _ _ (.v _)⟩;rcases l9 with rfl|rfl
  ·simp[AK]at hr;obtain⟨h0,rfl⟩:=hr;simp[execOp,ho,h1,h2,eqGuard,binOp,Op.shift,Int.not_lt.2 h0]
  ·simp[AK]at hr;obtain⟨h0,rfl⟩:=hr;simp[execOp,ho,h1,h2,eqGuard,binOp,Op.shift,Int.not_lt.2 h0]
end
inductive SR where
 |no
 |res (p:PV) (eff:List (Nat × Chunk)) (touch:List Nat) (side:Prop)
 |call (g:Nat) (ps:List PV)
def rG (c a b:PV):SR:=
 match c with
 | .d (.v (.bool t))=>
  match a,b with
  | .d (.v (.bool p)),.d (.v (.bool q))=> .res (.d (.v (.bool (bif t then p else q)))) [] [] True
  |_,_=> .res (if t then a else b) [] [] True
 |_=> .no
def U7 (op:UnOp)(x:PV):SR:=
 match op,x with
 | .not,.d (.v (.bool b))=> .res (.d (.v (.bool (!b)))) [] [] True
 | .neg,.d (.v (.int k n))=> .res (.d (.v (.int k (k.wrap (0 - n))))) [] [] True
 |_,_=> .no
def LC (x:PV):SR:=
 match x with
 | .ptr k off=> .res (.ptr k off) [] [] True
 | .rp k g sz i j=> .res (.rp k g sz i j) [] [] True
 | .d (.ept cs)=> .res (.d (.ept cs)) [] [] True
 |_=> .no
def LD (ti:Option TI)(q:Option Nat)(op:BinOp)(x y:PV):SR:=
 match x,y with
 | .d (.v (.int k m)),.d (.v (.int k' n))=>
  if k=k' then
   match op with
   | .quo=> .res (.d (.v (.int k (k.wrap (m.tdiv n))))) [] [] (n≠0)
   | .rem=> .res (.d (.v (.int k (m.tmod n)))) [] [] (n≠0)
   |_=>match AK op k m n with
    |some r=> .res (.d (.v r)) [] [] True
    |none=> .no
  else
   match op with
   | .shl=>match AK .shl k m n with|some r=> .res (.d (.v r)) [] [] True|none=> .no
   | .shr=>match AK .shr k m n with|some r=> .res (.d (.v r)) [] [] True|none=> .no
   |_=> .no
 | .d (.v (.string m)),.d (.v (.string n))=>
  match op with
  | .add=> .res (.d (.v (.string (m++n)))) [] [] (m.size+n.size≤9223372036854775807)
  | .eql=> .res (.d (.v (.bool (decide (m=n))))) [] [] True
  | .neq=> .res (.d (.v (.bool !decide (m=n)))) [] [] True
  |_=> .no
 | .d (.v (.bool m)),.d (.v (.bool n))=>
  match ti,op with
  |some ti,.eql=> .res (.d (.v (.bool (m==n)))) [] [] (ti.kind=1)
  |some ti,.neq=> .res (.d (.v (.bool (m !=n)))) [] [] (ti.kind=1)
  |_,_=> .no
 | .d (.v (.pointer none)),.d (.v (.pointer none))=>
  match ti,op with
  |some ti,.eql=> .res (.d (.v (.bool true))) [] [] (ti.kind=3)
  |some ti,.neq=> .res (.d (.v (.bool false))) [] [] (ti.kind=3)
  |_,_=> .no
 | .ptr _ _,.d (.v (.pointer none))=>
  match ti,op with
  |some ti,.eql=> .res (.d (.v (.bool false))) [] [] (ti.kind=3)
  |some ti,.neq=> .res (.d (.v (.bool true))) [] [] (ti.kind=3)
  |_,_=> .no
 | .rp _ _ _ _ _,.d (.v (.pointer none))=>
  match ti,op with
  |some ti,.eql=> .res (.d (.v (.bool false))) [] [] (ti.kind=3)
  |some ti,.neq=> .res (.d (.v (.bool true))) [] [] (ti.kind=3)
  |_,_=> .no
 | .d (.ept _),.d (.v (.pointer none))=>
  match ti,op with
  |some ti,.eql=> .res (.d (.v (.bool false))) [] [] (ti.kind=3)
  |some ti,.neq=> .res (.d (.v (.bool true))) [] [] (ti.kind=3)
  |_,_=> .no
 | .d (.sl _ (_::_)),.d (.v (.slice none _ _))=>
  match ti,op with
  |some ti,.eql=> .res (.d (.v (.bool false))) [] [] (ti.elem.isSome=true)
  |some ti,.neq=> .res (.d (.v (.bool true))) [] [] (ti.elem.isSome=true)
  |_,_=> .no
 | .d (.v (.slice ao _ _)),.d (.v (.slice none _ _))=>
  match ti,op with
  |some ti,.eql=> .res (.d (.v (.bool ao.isNone))) [] [] (ti.elem.isSome=true)
  |some ti,.neq=> .res (.d (.v (.bool !ao.isNone))) [] [] (ti.elem.isSome=true)
  |_,_=> .no
 | .d (.agg ds),.d (.agg es)=>
  match q,p7 ds,p7 es with
  |some n,some xs,some ys=>
   match op with
   | .eql=> .res (.d (.v (.bool (xs==ys)))) [] [] (xs.length=n∧ys.length=n)
   | .neq=> .res (.d (.v (.bool (xs !=ys)))) [] [] (xs.length=n∧ys.length=n)
   |_=> .no
  |_,_,_=> .no
 |_,_=> .no
def LF (ti:Option TI)(op:BinOp)(x:PV):SR:=
 match ti,op,x with
 |some ti,.eql,.d .nei=> .res (.d (.v (.bool false))) [] [] (ti.kind=5)
 |some ti,.neq,.d .nei=> .res (.d (.v (.bool true))) [] [] (ti.kind=5)
 |some ti,.eql,.d (.v .nilIface)=> .res (.d (.v (.bool true))) [] [] (ti.kind=5)
 |some ti,.neq,.d (.v .nilIface)=> .res (.d (.v (.bool false))) [] [] (ti.kind=5)
 |_,_,_=> .no
def vX (ti:Option TI)(f:Nat)(x:PV):SR:=
 match ti with
 |some ti=>
  match ti.fields[f]? with
  |some (off,sz)=>
   match x with
   | .d (.ept ds)=> .res (.d (.ept (ds.drop off))) [] [] (sz≠0)
   | .ptr k o'=> .res (.ptr k (o'+off)) [] [] (sz≠0)
   | .rp k g sz' i j=> .res (.rp k g sz' i (j+off)) [] [] (sz≠0)
   |_=> .no
  |none=> .no
 |none=> .no
def CJ (ti:Option TI)(h:Nat→Chunk)(x:PV):SR:=
 match ti with
 |some ti=>
  match x with
  | .d (.ept ds)=>
   if ti.agg then .res (.d (.agg (ds.take ti.size))) [] [] (ti.size≤ds.length)
   else match ds with
    |d::_=> .res (.d d) [] [] (ti.size=1)
    |[]=> .no
  | .ptr k off=>
   match h k with
   | .box _ cells=>
    if ti.agg then .res (sS ((cells.drop off).take ti.size)) [] [k] (off+ti.size≤cells.length)
    else match cells.drop off with
     |p::_=> .res p [] [k] (ti.size=1)
     |[]=> .no
   |_=> .no
  | .rp k g sz i j=>
   match h k with
   | .row _ sz' g' rows=>
    match rows[i]? with
    |some row=>
     if ti.agg then .res (sS ((row.drop j).take ti.size)) [] [k] (g=g'∧sz=sz'∧j+ti.size≤sz)
     else match row.drop j with
      |p::_=> .res p [] [k] (g=g'∧sz=sz'∧ti.size=1∧j+1≤sz)
      |[]=> .no
    |none=> .no
   |_=> .no
  |_=> .no
 |none=> .no
def vY (T:Nat→Option TI)(ti:Option TI)(h:Nat→Chunk)(x y:PV):SR:=
 match ti with
 |some ti=>
  match ti.elem with
  |some e=>
   match T e with
   |some te=>
    match y with
    | .d (.v (.int _ n))=>
     match x with
     | .d (.sl sz rows)=>match rows[n.toNat]? with|some row=> .res (.d (.ept row)) [] [] (te.size=sz∧0≤n)|none=> .no
     | .own k g=>
      match h k with
      | .row e' sz g' rows=> .res (.rp k g sz n.toNat 0) [] [k] (e'=e∧g'=g∧te.size=sz∧0≤n∧n.toNat < rows.length)
      |_=> .no
     | .osl k g sz st m=> .res (.rp k g sz (st+n.toNat) 0) [] [] (te.size=sz∧0≤n∧n.toNat < m)
     |_=> .no
    |_=> .no
   |none=> .no
  |none=>
   match ti.arr,x,y with
   |some (m,e),.ptr k off,.d (.v (.int _ n))=>
    match T e with
    |some te=> .res (.ptr k (off+n.toNat*te.size)) [] [] (0≤n∧n.toNat < m)
    |none=> .no
   |_,_,_=> .no
 |none=> .no
def vZ (T:Nat→Option TI)(ti:Option TI)(x y:PV):SR:=
 match ti with
 |some ti=>
  match x,y with
  | .d (.v (.string a)),.d (.v (.int _ n))=> .res (.d (.v (.int .u8 (AW a n.toNat)))) [] [] (ti.kind=2∧0≤n∧n.toNat < a.size)
  | .d (.agg ds),.d (.v (.int _ n))=>
   match ti.arr with
   |some (m,e)=>
    match T e with
    |some te=>match ds[n.toNat]? with|some q=> .res (.d q) [] [] (te.size=1∧te.agg=false∧0≤n∧n.toNat < m)|none=> .no
    |none=> .no
   |none=> .no
  |_,_=> .no
 |none=> .no
def zB (x:PV)(i:Nat):SR:=
 match x with
 | .d (.tup ds)=>match ds[i]? with|some d=> .res (.d d) [] [] True|none=> .no
 | .tup ds=>match ds[i]? with|some d=> .res d [] [] True|none=> .no
 |_=> .no
def s5 (e:cm):List (Nat × Operand)→Option (List (Nat × List PV))
 |[]=>some []
 |(i,x)::l=>
  if zn (du e x)then
   match s5 e l with
   |some pd=>some ((i,cN (du e x))::pd)
   |none=>none
  else none
def wa (T:Nat→Option TI)(ti:Option TI)(e:cm)(parts:List (Nat × Operand)):SR:=
 match ti with
 |some ti=>
  match ti.fields with
  |[]=>
   match ti.arr with
   |some (n,el)=>
    match T el,s5 e parts with
    |some te,some pd=>
     match p8 ((X3 n).map fun i=>(i*te.size,te.size)) (ti.zero.map fun x=> .d (.v x)) pd with
     |some out=> .res (sS out) [] [] True
     |none=> .no
    |_,_=> .no
   |none=> .no
  |_::_=>
   match s5 e parts with
   |some pd=>
    match p8 ti.fields (ti.zero.map fun x=> .d (.v x)) pd with
    |some out=> .res (sS out) [] [] True
    |none=> .no
   |none=> .no
 |none=> .no
def CK (e:cm):Nat→List (Nat × Operand)→Option (List (List PV))
 |_,[]=>some []
 |n,(i,x)::l=>
  if zn (du e x)&&(i==n)then
   match CK e (n+1) l with
   |some rows=>some (cN (du e x)::rows)
   |none=>none
  else none
def UL:List (List PV)→Option (List (List D))
 |[]=>some []
 |r::l=>match vM r,UL l with|some d,some ds=>some (d::ds)|_,_=>none
def wb (sz:Nat):List (List PV)→Prop
 |[]=>True
 |r::l=>r.length=sz∧wb sz l
def LG (T:Nat→Option TI)(ti:Option TI)(nk:Nat)(e:cm)(n:Nat)(parts:List (Nat × Operand)):SR:=
 match ti with
 |some ti=>
  match ti.elem with
  |some el=>
   match T el with
   |some te=>
    match n,parts with
    |0,[]=> .res (.own nk 0) [(nk,.row el te.size 0 [])] [nk] True
    |n+1,parts=>
     match CK e 0 parts with
     |some rows=>
      match (if te.kind=2 then none else UL rows)with
      |some ds=> .res (.d (.sl te.size ds)) [] [] (0 < te.size∧(n+1)*te.size≤16777216∧rows.length=n+1∧wb te.size rows)
      |none=> .res (.own nk 0) [(nk,.row el te.size 0 rows)] [nk] (0 < te.size∧(n+1)*te.size≤16777216∧rows.length=n+1∧wb te.size rows)
     |none=> .no
    |_,_=> .no
   |none=> .no
  |none=> .no
 |none=> .no
def CM (T:Nat→Option TI)(ti:Option TI)(nk:Nat)(x y:PV):SR:=
 match ti with
 |some ti=>
  match ti.elem with
  |some el=>
   match T el with
   |some te=>
    match te.zero,x,y with
    |[zv],.d (.v (.int _ n)),.d (.v (.int _ m))=> .res (.own nk 0) [(nk,.row el 1 0 (XR n.toNat [.d (.v zv)]))] [nk] (n=m∧0 < n∧(te.bytes:Int)*n≤281474976710656∧n≤9223372036854775807)
    |_,_,_=> .no
   |none=> .no
  |none=> .no
 |none=> .no
def CP (T:Nat→Option TI)(ts td:Option TI)(x:PV):SR:=
 match ts,td with
 |some ts,some td=>
  match td.int,x with
  |some k,.d (.v (.int _ n))=> .res (.d (.v (.int k (k.wrap n)))) [] [] True
  |none,.d (.sl 1 rows)=>
   match ts.elem with
   |some e=>
    match T e with
    |some te=>match oK rows with|some xs=> .res (.d (.v (.string (strOfNums xs)))) [] [] (te.int=some .u8∧td.kind=2)|none=> .no
    |none=> .no
   |none=> .no
  |_,_=> .no
 |_,_=> .no
def LH (ti:Option TI)(h:Nat→Chunk)(x:PV):SR:=
 match ti with
 |some ti=>
  match ti.elem with
  |some _=>
   match x with
   | .d (.sl _ rows)=> .res (.d (.v (.int .i64 rows.length))) [] [] True
   | .d (.v (.slice none 0 0))=> .res (.d (.v (.int .i64 (0:Nat)))) [] [] True
   | .own k g=>match h k with| .row _ _ g' rows=> .res (.d (.v (.int .i64 rows.length))) [] [k] (g=g')|_=> .no
   | .osl _ _ _ _ n=> .res (.d (.v (.int .i64 n))) [] [] True
   |_=> .no
  |none=>match x with| .d (.v (.string a))=> .res (.d (.v (.int .i64 a.size))) [] [] (ti.kind=2)|_=> .no
 |none=> .no
def Pz (h:Nat→Chunk)(sz:Nat)(y:PV):Option (List (List PV) × List Nat):=
 match y with
 | .d (.sl sz' news)=>if sz'=sz then some (ab news,[])else none
 | .d (.v (.slice _ 0 _))=>some ([],[])
 | .own k g=>match h k with| .row _ sz' g' rows=>if sz'=sz∧g'=g then some (rows,[k])else none|_=>none
 | .osl k g sz' st n=>match h k with| .row _ sz'' g' rows=>if sz'=sz∧sz''=sz∧g'=g then some ((rows.drop st).take n,[k])else none|_=>none
 |_=>none
def LI (T:Nat→Option TI)(ti:Option TI)(nk:Nat)(h:Nat→Chunk)(x y:PV):SR:=
 match ti with
 |some ti=>
  match ti.elem with
  |some el=>
   match T el with
   |some te=>
    if te.size=0∨te.bytes=0 then .no else
    match Pz h te.size y with
    |some (news,ty)=>
     match x with
     | .own k g=>
      match h k with
      | .row e' sz g' rows=> .res (.own k (g+1)) [(k,.row e' sz (g+1) (rows++news))] (k::ty) (e'=el∧g'=g∧te.size=sz∧(rows.length+news.length)*te.bytes≤140737488355328)
      |_=> .no
     | .d (.v (.slice none 0 0))=> .res (.own nk 0) [(nk,.row el te.size 0 news)] (nk::ty) (news.length*te.bytes≤140737488355328)
     | .osl k g sz st n=>
      match h k with
      | .row e' sz' g' rows=> .res (.osl k g sz 0 (n+news.length)) [(k,.row e' sz' g' (av rows n news))] (k::ty) (st=0∧e'=el∧g'=g∧sz'=sz∧te.size=sz∧rows≠[]∧n+news.length≤rows.length)
      |_=> .no
     |_=> .no
    |none=> .no
   |none=> .no
  |none=> .no
 |none=> .no
def wc (ti:Option TI)(h:Nat→Chunk)(dst:Option Nat)(x y:PV):SR:=
 match ti,dst with
 |some ti,none=>
  match x with
  | .ptr k off=>
   match h k with
   | .box T cells=>if zn y then .res .any [(k,.box T (av cells off (cN y)))] [k] ((cN y).length=ti.size∧off+ti.size≤cells.length)else .no
   |_=> .no
  | .rp k g sz i j=>
   match h k with
   | .row E sz' g' rows=>
    match rows[i]? with
    |some row=>if zn y then .res .any [(k,.row E sz' g' (rows.set i (av row j (cN y))))] [k] (g=g'∧sz=sz'∧(cN y).length=ti.size∧j+ti.size≤sz)else .no
    |none=> .no
   |_=> .no
  |_=> .no
 |_,_=> .no
def wd (T:Nat→Option TI)(ti:Option TI)(h:Nat→Chunk)(x:PV)(lo hi mx:Option PV):SR:=
 match ti with
 |some ti=>
  match ti.elem with
  |some e=>
   match T e with
   |some te=>
    match mx with
    |none=>
     match x with
     | .d (.sl sz rows)=>
      match GZ lo,G0 rows.length hi with
      |some l,some r=> .res (.d (.sl sz ((rows.take r).drop l))) [] [] (te.size=sz∧l≤r∧r≤rows.length)
      |_,_=> .no
     | .own k g=>
      match h k with
      | .row e' sz g' []=>
       match GZ lo,G0 0 hi with
       |some l,some r=> .res .any [] [k] (e'=e∧g'=g∧te.size=sz∧l=0∧r=0)
       |_,_=> .no
      | .row e' sz g' rows=>
       match GZ lo,G0 rows.length hi with
       |some l,some r=> .res (.osl k g sz l (r - l)) [] [k] (e'=e∧g'=g∧te.size=sz∧rows≠[]∧l≤r∧r≤rows.length)
       |_,_=> .no
      |_=> .no
     | .osl k g sz st n=>
      match h k with
      | .row e' sz' g' rows=>
       match GZ lo,G0 n hi with
       |some l,some r=> .res (.osl k g sz (st+l) (r - l)) [] [k] (e'=e∧g'=g∧sz'=sz∧te.size=sz∧rows≠[]∧l≤r∧st+r≤rows.length)
       |_,_=> .no
      |_=> .no
     |_=> .no
    |some m=>
     match x,lo,hi,m with
     | .own k g,some (.d (.v (.int _ n1))),some (.d (.v (.int _ n2))),.d (.v (.int _ n3))=>
      match h k with
      | .row e' sz g' rows=> .res .any [] [k] (e'=e∧g'=g∧te.size=sz∧rows≠[]∧0≤n1∧n1≤n2∧n2≤n3∧n3≤(rows.length:Int))
      |_=> .no
     |_,_,_,_=> .no
   |none=> .no
  |none=>
   match x,mx with
   | .d (.v (.string a)),none=>
    match GZ lo,G0 a.size hi with
    |some l,some r=> .res (.d (.v (.string (a.extract l r)))) [] [] (ti.kind=2∧l≤r∧r≤a.size)
    |_,_=> .no
   |_,_=> .no
 |none=> .no
def we (T:Nat→Option TI)(ti:Option TI)(h:Nat→Chunk)(x:PV):SR:=
 match ti with
 |some ti=>
  match ti.elem with
  |some e=>
   match T e with
   |some te=>
    match x with
    | .osl k g sz st n=>
     match h k with
     | .row e' sz' g' rows=> .res (.d (.v (.tuple #[]))) [(k,.row e' sz' g' (av rows st (XR n (te.zero.map fun x=> .d (.v x)))))] [k] (e'=e∧g'=g∧sz'=sz∧te.size=sz∧rows≠[]∧st+n≤rows.length)
     |_=> .no
    |_=> .no
   |none=> .no
  |none=> .no
 |none=> .no
def oL (ti:Option TI)(nk:Nat):SR:=
 match ti with
 |some ti=>
  match ti.mp with
  |some (n,sB)=> .res (.mref nk) [(nk,.mp n sB [])] [nk] True
  |none=> .no
 |none=> .no
def rH (ti:Option TI)(h:Nat→Chunk)(m x:PV)(ok:Bool):SR:=
 match ti with
 |some ti=>
  match ti.mp with
  |some (n,sB)=>
   match m with
   | .mref k=>
    match h k with
    | .mp n' sB' ents=>
     match Ft sB x with
     |some xs=> .res (if ok then .d (.tup [.v (.int .i64 ((kl ents xs).getD 0)),.v (.bool (kl ents xs).isSome)])else .d (.v (.int .i64 ((kl ents xs).getD 0)))) [] [k] (n'=n∧sB'=sB∧xs.length=n)
     |none=> .no
    |_=> .no
   |_=> .no
  |none=> .no
 |none=> .no
def s6 (ti:Option TI)(h:Nat→Chunk)(dst:Option Nat)(m x y:PV):SR:=
 match ti,dst with
 |some ti,none=>
  match ti.mp with
  |some (n,sB)=>
   match m with
   | .mref k=>
    match h k with
    | .mp n' sB' ents=>
     match Ft sB x,y with
     |some xs,.d (.v (.int .i64 v))=> .res .any [(k,.mp n' sB' (mo ents xs v))] [k] (n'=n∧sB'=sB∧xs.length=n)
     |_,_=> .no
    |_=> .no
   |_=> .no
  |none=> .no
 |_,_=> .no
def wg (ti:Option TI)(h:Nat→Chunk)(nk:Nat)(m:PV):SR:=
 match ti with
 |some ti=>
  match ti.mp with
  |some (n,sB)=>
   match m with
   | .mref k=>
    match h k with
    | .mp n' sB' ents=> .res (.ptr nk 0) [(nk,.it n' sB' ents []),(k,.gone)] [k,nk] (n'=n∧sB'=sB)
    |_=> .no
   |_=> .no
  |none=> .no
 |none=> .no
def wh (h:Nat→Chunk)(x:PV):SR:=
 match x with
 | .ptr k 0=>
  match h k with
  | .it _ _ ents seen=>
   match seen.getLast? with
   |some i=>
    match ents[i]? with
    |some kv=> .res (.tup [.any,.d (.v (.int .i64 kv.2))]) [] [k] True
    |none=> .no
   |none=> .no
  |_=> .no
 |_=> .no
def CQ (f:PV)(args:List PV):SR:=
 match f with
 | .clo g caps=> .call g (args++caps)
 | .d (.clo g cd)=> .call g (args++cd.map .d)
 |_=> .no
def O6 (T:Nat→Option TI)(Q:Nat→Option Nat)(e:cm)(hl:List Chunk)(o:Oper):SR:=
 match o.op with
 | .move x=> .res (du e x) [] [] True
 | .assign x=> .res (du e x) [] [] True
 | .pick c a b=>rG (du e c) (du e a) (du e b)
 | .unOp op _ x=>U7 op (du e x)
 | .nilCheck x=>LC (du e x)
 | .binOp op t x (.const .nilIface) _=>LF (T t) op (du e x)
 | .binOp op t x y _=>LD (T t) (Q t) op (du e x) (du e y)
 | .fieldAddr t x f=>vX (T t) f (du e x)
 | .load t x=>CJ (T t) (aw hl) (du e x)
 | .indexAddr t x y=>vY T (T t) (aw hl) (du e x) (du e y)
 | .index t x y=>vZ T (T t) (du e x) (du e y)
 | .extract x i=>zB (du e x) i
 | .alloc t=>match T t with|some ti=> .res (.ptr hl.length 0) [(hl.length,.box t (ti.zero.map fun x=> .d (.v x)))] [hl.length] True|none=> .no
 | .box t x=>if zn (du e x)then .res (.ptr hl.length 0) [(hl.length,.box t (cN (du e x)))] [hl.length] True else .no
 | .store t x y=>wc (T t) (aw hl) o.dst (du e x) (du e y)
 | .build t ⟨parts⟩=>wa T (T t) e parts
 | .buildSlice t n ⟨parts⟩=>LG T (T t) hl.length e n parts
 | .makeFunc (.func g) ⟨[]⟩ ⟨caps⟩=> .res (.clo g (caps.map (du e))) [] [] True
 | .convert src dst x=>CP T (T src) (T dst) (du e x)
 | .call ⟨.builtin .len,⟨[x]⟩,⟨[t]⟩⟩=>LH (T t) (aw hl) (du e x)
 | .slice t x lo hi mx=>wd T (T t) (aw hl) (du e x) (lo.map (du e)) (hi.map (du e)) (mx.map (du e))
 | .call ⟨.builtin .clear,⟨[x]⟩,⟨[t]⟩⟩=>we T (T t) (aw hl) (du e x)
 | .call ⟨.builtin .append,⟨[x,y]⟩,⟨[t,t']⟩⟩=>if t=t' then LI T (T t) hl.length (aw hl) (du e x) (du e y)else .no
 | .call ⟨.builtin .min,⟨[x,y]⟩,_⟩=>match du e x,du e y with| .d (.v (.int k m)),.d (.v (.int k' n))=>if k=k' then .res (.d (.v (.int k (if n < m then n else m)))) [] [] True else .no|_,_=> .no
 | .call ⟨.builtin .max,⟨[x,y]⟩,_⟩=>match du e x,du e y with| .d (.v (.int k m)),.d (.v (.int k' n))=>if k=k' then .res (.d (.v (.int k (if m < n then n else m)))) [] [] True else .no|_,_=> .no
 | .call ⟨.value f,⟨args⟩,_⟩=>CQ (du e f) (args.map (du e))
 | .makeSlice t x y=>CM T (T t) hl.length (du e x) (du e y)
 | .makeMap t none=>oL (T t) hl.length
 | .lookup t m x ok=>rH (T t) (aw hl) (du e m) (du e x) ok
 | .range t m=>wg (T t) (aw hl) hl.length (du e m)
 | .entry x=>wh (aw hl) (du e x)
 | .mapUpdate t m x y=>s6 (T t) (aw hl) o.dst (du e m) (du e x) (du e y)
 | .insert t m x y=>s6 (T t) (aw hl) o.dst (du e m) (du e x) (du e y)
 |_=> .no
theorem fD:∀(l:List Chunk),aw l l.length= .none
 |[]=>rfl
 |_::l=>fD l
structure TabOK (P:Program)(T:Nat→Option TI)(Q:Nat→Option Nat):Prop where
 t:∀t ti,T t=some ti→aJ P t=some ti
 q:∀t n,Q t=some n→Ch P t n
 m:∀t ti n s,T t=some ti→ti.mp=some (n,s)→MapOK P t n s
theorem yw {P:Program}{t e:Nat}(h:P.underlying t=some (.pointer e))(a:Addr)(w:World):(Op.equal t (.pointer (some a)) (.pointer none)).run P w= .ok false w:=by
 unfold Op.equal;show (Op.equalIn (9999+1) t _ _).run P w=_;rw[Op.equalIn,Sem.run_bind,run_underlying h];rfl
theorem yx {P:Program}{t e:Nat}(h:P.underlying t=some (.pointer e))(w:World):(Op.equal t (.pointer none) (.pointer none)).run P w= .ok true w:=by
 unfold Op.equal;show (Op.equalIn (9999+1) t _ _).run P w=_;rw[Op.equalIn,Sem.run_bind,run_underlying h];rfl
theorem zC {X:Cfg}{ops:Array Oper}{s:FS}{o:Oper}(hd:∀d,o.dst=some d→d < X.n){ti:TI}{op:BinOp}{t t':Nat}{x y:Operand}{r:Bool}(ho:o.op= .binOp op t x y t')(ht:aJ X.P t=some ti)(hb:ti.kind=3)(hx:ev s x= .d (.v (.pointer none)))(hy:ev s y= .d (.v (.pointer none)))
 (hr:(op= .eql∧r=true)∨(op= .neq∧r=false)):bv X ops s o {pv:= .d (.v (.bool r))}:=
 aB hd fun s' he _ a w c hc=>by
  have h1:=cY hc ((he x (by simp[ho,Op.operands])).trans hx);have h2:=cY hc ((he y (by simp[ho,Op.operands])).trans hy);obtain⟨i,d,z,tk⟩:=gC ht;obtain⟨el,rfl⟩:∃el,d= .pointer el:=by
   have:=tk.kind;rw[hb]at this;cases d<;>simp[p6]at this;exact⟨_,rfl⟩
  refine⟨.bool r,?_,.d _ _ (.v _)⟩;rcases hr with⟨rfl,rfl⟩|⟨rfl,rfl⟩<;>simp[execOp,ho,h1,h2,eqGuard,binOp,yx tk.und]
theorem uM {P:Program}{t e:Nat}(h:P.underlying t=some (.slice e))(a:Option Addr)(n c n' c':Nat)(w:World):(Op.equal t (.slice a n c) (.slice none n' c')).run P w= .ok a.isNone w:=by
 unfold Op.equal;show (Op.equalIn (9999+1) t _ _).run P w=_;rw[Op.equalIn,Sem.run_bind,run_underlying h];cases a<;>rfl
theorem rI {X:Cfg}{ops:Array Oper}{s:FS}{o:Oper}(hd:∀d,o.dst=some d→d < X.n){ti:TI}{op:BinOp}{t t' n' c':Nat}{x y:Operand}{r z:Bool}(ho:o.op= .binOp op t x y t')(ht:aJ X.P t=some ti)(hb:ti.elem.isSome=true)
 (hx:(∃sz a l,ev s x= .d (.sl sz (a::l))∧z=false)∨∃ao n c,ev s x= .d (.v (.slice ao n c))∧z=ao.isNone) (hy:ev s y= .d (.v (.slice none n' c')))
 (hr:(op= .eql∧r=z)∨(op= .neq∧r=!z)):bv X ops s o {pv:= .d (.v (.bool r))}:=
 aB hd fun s' he _ a w c hc=>by
  have e1:=bF hc x;rw[he x (by simp[ho,Op.operands])]at e1;have h2:=cY hc ((he y (by simp[ho,Op.operands])).trans hy);generalize hu:a.eval x=u at e1;obtain⟨i,d,zz,tk⟩:=gC ht;obtain⟨el,rfl⟩:∃el,d= .slice el:=by
   have:=tk.elem;obtain⟨el,hel⟩:=Zy.1 hb;rw[hel]at this;cases d<;>simp[fB]at this;exact⟨_,rfl⟩
  obtain⟨ao,n,cap,rfl,hz⟩:∃ao n cap,u= .slice ao n cap∧z=ao.isNone:=by
   rcases hx with⟨sz,b,l,hx,rfl⟩|⟨ao,n,cap,hx,rfl⟩
   ·rw[hx]at e1;have e1:=bS e1;cases e1 with
    |sl _ _ b off cap=>exact⟨_,_,cap,rfl,rfl⟩
   ·rw[hx]at e1;have e1:=bS e1;cases e1;exact⟨_,_,_,rfl,rfl⟩
  subst hz;refine⟨.bool r,?_,.d _ _ (.v _)⟩;rcases hr with⟨rfl,rfl⟩|⟨rfl,rfl⟩<;>simp[execOp,ho,hu,h2,eqGuard,binOp,uM tk.und]
theorem km {X:Cfg}{ops:Array Oper}{s:FS}{o:Oper}(hd:∀d,o.dst=some d→d < X.n){ti:TI}{op:BinOp}{t t':Nat}{x y:Operand}{r:Bool}(ho:o.op= .binOp op t x y t')(ht:aJ X.P t=some ti)(hb:ti.kind=3)
 (hx:(∃k off,ev s x= .ptr k off)∨(∃k g sz i j,ev s x= .rp k g sz i j)∨∃ds,ev s x= .d (.ept ds)) (hy:ev s y= .d (.v (.pointer none)))
 (hr:(op= .eql∧r=false)∨(op= .neq∧r=true)):bv X ops s o {pv:= .d (.v (.bool r))}:=
 aB hd fun s' he _ a w c hc=>by
  have h1:∃ad,a.eval x= .pointer (some ad):=by
   have:=bF hc x;rw[he x (by simp[ho,Op.operands])]at this;generalize a.eval x=u at this;rcases hx with⟨k,off,hx⟩|⟨k,g,sz,i,j,hx⟩|⟨ds,hx⟩<;>rw[hx]at this
   ·cases this;exact⟨_,rfl⟩
   ·cases this;exact⟨_,rfl⟩
   ·have:=bS this;cases this;exact⟨_,rfl⟩
  obtain⟨ad,h1⟩:=h1;have h2:=cY hc ((he y (by simp[ho,Op.operands])).trans hy);obtain⟨i,d,z,tk⟩:=gC ht;obtain⟨el,rfl⟩:∃el,d= .pointer el:=by
   have:=tk.kind;rw[hb]at this;cases d<;>simp[p6]at this;exact⟨_,rfl⟩
  refine⟨.bool r,?_,.d _ _ (.v _)⟩;rcases hr with⟨rfl,rfl⟩|⟨rfl,rfl⟩<;>simp[execOp,ho,h1,h2,eqGuard,binOp,yw tk.und]
theorem yy {X:Cfg}{ops:Array Oper}{s:FS}{o:Oper}(hd:∀d,o.dst=some d→d < X.n){x:Operand}{k g sz i j:Nat}(ho:o.op= .nilCheck x)(hx:ev s x= .rp k g sz i j):bv X ops s o {pv:= .rp k g sz i j}:=
 aB hd fun s' he _ a w c hc=>by
  have:=bF hc x;rw[he x (by simp[ho,Op.operands]),hx]at this;generalize hu:a.eval x=u at this;cases this with
  |rp _ _ _ _ _ b n cap h=>exact⟨_,by simp[execOp,ho,hu],.rp k g sz i j b n cap h⟩
section
variable {X:Cfg}{ops:Array Oper}{e:cm}{hl:List Chunk}{o:Oper}{T:Nat→Option TI}{Q:Nat→Option Nat}(bT:TabOK X.P T Q)(hd:∀d,o.dst=some d→d < X.n){p:PV}{eff:List (Nat × Chunk)}{touch:List Nat}{side:Prop}
include hd
theorem LJ {x y z:Operand}(ho:o.op= .pick x y z)(h:rG (du e x) (du e y) (du e z)= .res p eff touch side)(_hs:side):bv X ops (bG e hl) o {pv:=p,eff:=eff,touch:=touch}:=by
 unfold rG at h;split at h
 ·rename_i t hx;have key:=Ps (X:=X) (ops:=ops) (s:=bG e hl) hd ho ((ax e hl x).trans hx);rw[ax,ax]at key;split at h
  ·rename_i a b ha hb;cases h;rw[ha,hb]at key;cases t<;>exact key
  ·cases h;exact key
 ·cases h
theorem SV {op:UnOp}{t:Nat}{x:Operand}(ho:o.op= .unOp op t x)(h:U7 op (du e x)= .res p eff touch side)(_hs:side):bv X ops (bG e hl) o {pv:=p,eff:=eff,touch:=touch}:=by
 unfold U7 at h;split at h
 ·rename_i b hx;cases h;exact SM hd ho ((ax e hl x).trans hx)
 ·rename_i k n hx;cases h;exact SN hd ho ((ax e hl x).trans hx)
 ·cases h
theorem PA {x:Operand}(ho:o.op= .nilCheck x)(h:LC (du e x)= .res p eff touch side)(_hs:side):bv X ops (bG e hl) o {pv:=p,eff:=eff,touch:=touch}:=by
 unfold LC at h;split at h
 ·rename_i k off hx;cases h;have:=uc (X:=X) (ops:=ops) (s:=bG e hl) hd ho (.inl ⟨k,off,(ax e hl x).trans hx⟩);rwa [ax,hx]at this
 ·rename_i k g sz i j hx;cases h;exact yy hd ho ((ax e hl x).trans hx)
 ·rename_i cs hx;cases h;have:=uc (X:=X) (ops:=ops) (s:=bG e hl) hd ho (.inr ⟨cs,(ax e hl x).trans hx⟩);rwa [ax,hx]at this
 ·cases h
include bT in
theorem PB {op:BinOp}{t t':Nat}{x y:Operand}(ho:o.op= .binOp op t x y t')(h:LD (T t) (Q t) op (du e x) (du e y)= .res p eff touch side)(hs:side):bv X ops (bG e hl) o {pv:=p,eff:=eff,touch:=touch}:=by
 unfold LD at h;split at h
 ·rename_i k m k' n hx hy;split at h
  ·rename_i hk;subst hk;split at h
   ·cases h;exact zk hd ho ((ax e hl x).trans hx) ((ax e hl y).trans hy) hs (.inl ⟨rfl,rfl⟩)
   ·cases h;exact zk hd ho ((ax e hl x).trans hx) ((ax e hl y).trans hy) hs (.inr ⟨rfl,rfl⟩)
   ·split at h
    ·rename_i r hr;cases h;exact SO hd ho ((ax e hl x).trans hx) ((ax e hl y).trans hy) hr
    ·cases h
  ·split at h
   ·split at h
    ·rename_i r hr;cases h;exact CH hd ho (.inl rfl) ((ax e hl x).trans hx) ((ax e hl y).trans hy) hr
    ·cases h
   ·split at h
    ·rename_i r hr;cases h;exact CH hd ho (.inr rfl) ((ax e hl x).trans hx) ((ax e hl y).trans hy) hr
    ·cases h
   ·cases h
 ·rename_i m n hx hy;split at h
  ·cases h;exact IB hd ho ((ax e hl x).trans hx) ((ax e hl y).trans hy) hs
  ·cases h;exact CB hd ho ((ax e hl x).trans hx) ((ax e hl y).trans hy) (.inl ⟨rfl,rfl⟩)
  ·cases h;exact CB hd ho ((ax e hl x).trans hx) ((ax e hl y).trans hy) (.inr ⟨rfl,rfl⟩)
  ·cases h
 ·rename_i m n hx hy;split at h
  ·rename_i ti ht;cases h;exact zl hd ho (bT.t t _ ht) hs ((ax e hl x).trans hx) ((ax e hl y).trans hy) (.inl ⟨rfl,rfl⟩)
  ·rename_i ti ht;cases h;exact zl hd ho (bT.t t _ ht) hs ((ax e hl x).trans hx) ((ax e hl y).trans hy) (.inr ⟨rfl,rfl⟩)
  ·cases h
 ·rename_i hx hy;split at h
  ·rename_i ti ht;cases h;exact zC hd ho (bT.t t _ ht) hs ((ax e hl x).trans hx) ((ax e hl y).trans hy) (.inl ⟨rfl,rfl⟩)
  ·rename_i ti ht;cases h;exact zC hd ho (bT.t t _ ht) hs ((ax e hl x).trans hx) ((ax e hl y).trans hy) (.inr ⟨rfl,rfl⟩)
  ·cases h
 ·rename_i k off hx hy;split at h
  ·rename_i ti ht;cases h;exact km hd ho (bT.t t _ ht) hs (.inl ⟨k,off,(ax e hl x).trans hx⟩) ((ax e hl y).trans hy) (.inl ⟨rfl,rfl⟩)
  ·rename_i ti ht;cases h;exact km hd ho (bT.t t _ ht) hs (.inl ⟨k,off,(ax e hl x).trans hx⟩) ((ax e hl y).trans hy) (.inr ⟨rfl,rfl⟩)
  ·cases h
 ·rename_i k g sz i j hx hy;split at h
  ·rename_i ti ht;cases h;exact km hd ho (bT.t t _ ht) hs (.inr (.inl ⟨k,g,sz,i,j,(ax e hl x).trans hx⟩)) ((ax e hl y).trans hy) (.inl ⟨rfl,rfl⟩)
  ·rename_i ti ht;cases h;exact km hd ho (bT.t t _ ht) hs (.inr (.inl ⟨k,g,sz,i,j,(ax e hl x).trans hx⟩)) ((ax e hl y).trans hy) (.inr ⟨rfl,rfl⟩)
  ·cases h
 ·rename_i ds hx hy;split at h
  ·rename_i ti ht;cases h;exact km hd ho (bT.t t _ ht) hs (.inr (.inr ⟨ds,(ax e hl x).trans hx⟩)) ((ax e hl y).trans hy) (.inl ⟨rfl,rfl⟩)
  ·rename_i ti ht;cases h;exact km hd ho (bT.t t _ ht) hs (.inr (.inr ⟨ds,(ax e hl x).trans hx⟩)) ((ax e hl y).trans hy) (.inr ⟨rfl,rfl⟩)
  ·cases h
 ·rename_i sz a l n' c' hx hy;split at h
  ·rename_i ti ht;cases h;exact rI hd ho (bT.t t _ ht) hs (.inl ⟨_,_,_,(ax e hl x).trans hx,rfl⟩) ((ax e hl y).trans hy) (.inl ⟨rfl,rfl⟩)
  ·rename_i ti ht;cases h;exact rI hd ho (bT.t t _ ht) hs (.inl ⟨_,_,_,(ax e hl x).trans hx,rfl⟩) ((ax e hl y).trans hy) (.inr ⟨rfl,rfl⟩)
  ·cases h
 ·rename_i ao n c n' c' hx hy;split at h
  ·rename_i ti ht;cases h;exact rI hd ho (bT.t t _ ht) hs (.inr ⟨_,_,_,(ax e hl x).trans hx,rfl⟩) ((ax e hl y).trans hy) (.inl ⟨rfl,rfl⟩)
  ·rename_i ti ht;cases h;exact rI hd ho (bT.t t _ ht) hs (.inr ⟨_,_,_,(ax e hl x).trans hx,rfl⟩) ((ax e hl y).trans hy) (.inr ⟨rfl,rfl⟩)
  ·cases h
 ·rename_i ds es hx hy;split at h
  ·rename_i n xs ys hq h1 h2;split at h
   ·cases h;exact Ci hd ho (bT.q t n hq) (.inl rfl) ((ax e hl x).trans hx) ((ax e hl y).trans hy) h1 h2 hs.1 hs.2
   ·cases h;have:=Ci (X:=X) (ops:=ops) (s:=bG e hl) hd ho (bT.q t n hq) (.inr rfl) ((ax e hl x).trans hx) ((ax e hl y).trans hy) h1 h2 hs.1 hs.2;simpa using this
   ·cases h
  ·cases h
 ·cases h
include bT in
theorem ID {t f:Nat}{x:Operand}(ho:o.op= .fieldAddr t x f)(h:vX (T t) f (du e x)= .res p eff touch side)(hs:side):bv X ops (bG e hl) o {pv:=p,eff:=eff,touch:=touch}:=by
 unfold vX at h;split at h
 ·rename_i ti ht;split at h
  ·rename_i off sz hf;split at h
   ·rename_i ds hx;cases h;exact Li hd ho (bT.t t ti ht) hf hs ((ax e hl x).trans hx)
   ·rename_i k o' hx;cases h;exact Ck hd ho (bT.t t ti ht) hf hs ((ax e hl x).trans hx)
   ·rename_i k g sz' i j hx;cases h;exact Fn hd ho (bT.t t ti ht) hf hs ((ax e hl x).trans hx)
   ·cases h
  ·cases h
 ·cases h
omit hd in
theorem s7 {α:Type}{l:List α}{j:Nat}{d:α}{r:List α}(h:l.drop j=d::r):l[j]? =some d:=by
 have:=Yk (xs:=l) (i:=j) (j:=0);rw[h]at this;simpa using this.symm
include bT in
theorem LL {t:Nat}{x:Operand}(ho:o.op= .load t x)(h:CJ (T t) (aw hl) (du e x)= .res p eff touch side)(hs:side):bv X ops (bG e hl) o {pv:=p,eff:=eff,touch:=touch}:=by
 unfold CJ at h;split at h
 ·rename_i ti ht;have ht:=bT.t t ti ht;split at h
  ·rename_i ds hx;have hx:=(ax e hl x).trans hx;split at h
   ·rename_i pQ;cases h;exact Cl hd ho ht hx hs (.inl ⟨pQ,rfl⟩)
   ·rename_i pQ;split at h
    ·rename_i d r;cases h;have hs':ti.size=1:=hs;exact Cl hd ho ht hx (by rw[hs'];simp) (.inr ⟨by simpa using pQ,hs',rfl⟩)
    ·cases h
  ·rename_i k off hx;have hx:=(ax e hl x).trans hx;split at h
   ·rename_i TT cells hk;split at h
    ·rename_i pQ;cases h;exact Cm hd ho ht hx (s:=bG e hl) hk hs (.inl ⟨pQ,rfl⟩)
    ·rename_i pQ;split at h
     ·rename_i q r hc;cases h;have hs':ti.size=1:=hs;have hc':=s7 hc;exact Cm hd ho ht hx (s:=bG e hl) hk (by have:=(Xo.1 hc').1;omega) (.inr ⟨by simpa using pQ,hs',hc'⟩)
     ·cases h
   ·cases h
  ·rename_i k g sz i j hx;have hx:=(ax e hl x).trans hx;split at h
   ·rename_i E sz' g' rows hk;split at h
    ·rename_i row bO;split at h
     ·rename_i pQ;cases h;obtain⟨rfl,rfl,hj⟩:=hs;exact zp hd ho ht hx (s:=bG e hl) hk bO hj (.inl ⟨pQ,rfl⟩)
     ·rename_i pQ;split at h
      ·rename_i d r hc;cases h;obtain⟨rfl,rfl,hs',hj⟩:=hs;have hc':=s7 hc;exact zp hd ho ht hx (s:=bG e hl) hk bO (by omega) (.inr ⟨by simpa using pQ,hs',hc'⟩)
      ·cases h
    ·cases h
   ·cases h
  ·cases h
 ·cases h
include bT in
theorem PC {op:BinOp}{t t':Nat}{x:Operand}(ho:o.op= .binOp op t x (.const .nilIface) t')(h:LF (T t) op (du e x)= .res p eff touch side)(hs:side):bv X ops (bG e hl) o {pv:=p,eff:=eff,touch:=touch}:=by
 unfold LF at h;split at h
 ·rename_i ti ht hx;cases h;exact rF hd ho (bT.t _ _ ht) hs ((ax e hl x).trans hx) (.inl rfl) (.inl ⟨rfl,rfl⟩)
 ·rename_i ti ht hx;cases h;exact rF hd ho (bT.t _ _ ht) hs ((ax e hl x).trans hx) (.inl rfl) (.inr ⟨rfl,rfl⟩)
 ·rename_i ti ht hx;cases h;exact rF hd ho (bT.t _ _ ht) hs ((ax e hl x).trans hx) (.inr rfl) (.inl ⟨rfl,rfl⟩)
 ·rename_i ti ht hx;cases h;exact rF hd ho (bT.t _ _ ht) hs ((ax e hl x).trans hx) (.inr rfl) (.inr ⟨rfl,rfl⟩)
 ·cases h
include bT in
theorem IE {t:Nat}{x y:Operand}(ho:o.op= .indexAddr t x y)(h:vY T (T t) (aw hl) (du e x) (du e y)= .res p eff touch side)(hs:side):bv X ops (bG e hl) o {pv:=p,eff:=eff,touch:=touch}:=by
 unfold vY at h;split at h
 ·rename_i ti ht;split at h
  ·rename_i el he;split at h
   ·rename_i te fT;split at h
    ·rename_i kd n hy;have hy:=(ax e hl y).trans hy;split at h
     ·rename_i sz rows hx;split at h
      ·rename_i row bO;cases h;exact Ll hd ho (bT.t t ti ht) he (bT.t el te fT) hs.1 ((ax e hl x).trans hx) hy hs.2 bO
      ·cases h
     ·rename_i k g hx;split at h
      ·rename_i e' sz g' rows hk;cases h;obtain⟨rfl,rfl,h1,h2,h3⟩:=hs;exact Cp hd ho (bT.t t ti ht) he (bT.t _ te fT) h1 ((ax e hl x).trans hx) (s:=bG e hl) hk hy h2 h3
      ·cases h
     ·rename_i k g sz st m hx;cases h;exact Cv hd ho (bT.t t ti ht) he (bT.t _ te fT) hs.1 ((ax e hl x).trans hx) (s:=bG e hl) hy hs.2.1 hs.2.2
     ·cases h
    ·cases h
   ·cases h
  ·split at h
   ·rename_i m el k off kd n ha hx hy;split at h
    ·rename_i te fT;cases h;exact Fy hd ho (bT.t t ti ht) ha (bT.t el te fT) rfl ((ax e hl x).trans hx) ((ax e hl y).trans hy) hs.1 hs.2
    ·cases h
   ·cases h
 ·cases h
include bT in
theorem IF {t:Nat}{x y:Operand}(ho:o.op= .index t x y)(h:vZ T (T t) (du e x) (du e y)= .res p eff touch side)(hs:side):bv X ops (bG e hl) o {pv:=p,eff:=eff,touch:=touch}:=by
 unfold vZ at h;split at h
 ·rename_i ti ht;split at h
  ·rename_i a kd n hx hy;cases h;exact CC hd ho (bT.t t ti ht) hs.1 ((ax e hl x).trans hx) ((ax e hl y).trans hy) hs.2.1 hs.2.2
  ·rename_i ds kd n hx hy;split at h
   ·rename_i m el ha;split at h
    ·rename_i te fT;split at h
     ·rename_i q hq;cases h;exact CF hd ho (bT.t t ti ht) ha (bT.t el te fT) hs.1 hs.2.1 ((ax e hl x).trans hx) ((ax e hl y).trans hy) hs.2.2.1 hs.2.2.2 hq
     ·cases h
    ·cases h
   ·cases h
  ·cases h
 ·cases h
theorem LM {x:Operand}{i:Nat}(ho:o.op= .extract x i)(h:zB (du e x) i= .res p eff touch side)(_hs:side):bv X ops (bG e hl) o {pv:=p,eff:=eff,touch:=touch}:=by
 unfold zB at h;split at h
 ·rename_i ds hx;split at h
  ·rename_i d hi;cases h;exact Fm hd ho ((ax e hl x).trans hx) hi
  ·cases h
 ·rename_i ds hx;split at h
  ·rename_i d hi;cases h;exact Cn hd ho ((ax e hl x).trans hx) hi
  ·cases h
 ·cases h
omit hd in
theorem s9:∀{parts:List (Nat × Operand)}{pd:List (Nat × List PV)},s5 e parts=some pd→pd.length=parts.length∧∀(j:Nat) (i:Nat) (x:Operand),parts[j]? =some (i,x)→pd[j]? =some (i,cN (du e x))∧zn (du e x)=true
 |[],pd,h=>by cases h;simp
 |(i,x)::l,pd,h=>by
  unfold s5 at h;split at h
  ·rename_i cC;split at h
   ·rename_i pd' h2;cases h;obtain⟨q1,q2⟩:=s9 h2;refine⟨by simp[q1],fun j i' y hj=>?_⟩;cases j with
    |zero=>
     simp at hj;obtain⟨rfl,rfl⟩:=hj;exact⟨rfl,cC⟩
    |succ j=>simpa using q2 j i' y (by simpa using hj)
   ·cases h
  ·cases h
include bT in
theorem IG {t:Nat}{parts:List (Nat × Operand)}(ho:o.op= .build t ⟨parts⟩)(h:wa T (T t) e parts= .res p eff touch side)(_hs:side):bv X ops (bG e hl) o {pv:=p,eff:=eff,touch:=touch}:=by
 unfold wa at h;split at h
 ·rename_i ti ht;split at h
  ·split at h
   ·rename_i n el ha;split at h
    ·rename_i te pd fT hp;split at h
     ·rename_i out hf;cases h;obtain⟨q1,q2⟩:=s9 hp;refine CG hd ho (bT.t t ti ht) ha (bT.t el te fT) (pd:=pd) (by simpa using q1) (fun j i x hj=>?_) hf;obtain⟨r1,r2⟩:=q2 j i x (by simpa using hj);rw[ax];exact⟨r1,r2⟩
     ·cases h
    ·cases h
   ·cases h
  ·rename_i f fs jC;split at h
   ·rename_i pd hp;split at h
    ·rename_i out hf;cases h;obtain⟨q1,q2⟩:=s9 hp;refine Lq hd ho (bT.t t ti ht) (by rw[jC];simp) (pd:=pd) (by simpa using q1) (fun j i x hj=>?_) (by rw[←hf,jC]);obtain⟨r1,r2⟩:=q2 j i x (by simpa using hj);rw[ax];exact⟨r1,r2⟩
    ·cases h
   ·cases h
 ·cases h
omit hd in
theorem CR:∀{parts:List (Nat × Operand)}{n:Nat}{rows:List (List PV)},CK e n parts=some rows→parts.length=rows.length∧∀(j:Nat) (i:Nat) (x:Operand),parts[j]? =some (i,x)→
 i=n+j∧rows[j]? =some (cN (du e x))∧zn (du e x)=true
 |[],n,rows,h=>by cases h;simp
 |(i,x)::l,n,rows,h=>by
  unfold CK at h;split at h
  ·rename_i cC;simp only[Xy,beq_iff_eq]at cC;split at h
   ·rename_i rows' h2;cases h;obtain⟨q1,q2⟩:=CR h2;refine⟨by simp[q1],fun j i' y hj=>?_⟩;cases j with
    |zero=>
     simp at hj;obtain⟨rfl,rfl⟩:=hj;exact⟨by omega,rfl,cC.1⟩
    |succ j=>
     obtain⟨r0,r1,r3⟩:=q2 j i' y (by simpa using hj);exact⟨by omega,by simpa using r1,r3⟩
   ·cases h
  ·cases h
omit hd in
theorem LN:∀{rows:List (List PV)}{ds:List (List D)},UL rows=some ds→rows.length=ds.length∧∀(j:Nat) (r:List PV),rows[j]? =some r→∃d,ds[j]? =some d∧vM r=some d
 |[],ds,h=>by cases h;simp
 |r::l,ds,h=>by
  unfold UL at h;split at h
  ·rename_i d ds' h1 h2;cases h;obtain⟨q1,q2⟩:=LN h2;refine⟨by simp[q1],fun j x hj=>?_⟩;cases j with
   |zero=>simp at hj;subst hj;exact⟨d,rfl,h1⟩
   |succ j=>simpa using q2 j x (by simpa using hj)
  ·cases h
omit hd in
theorem qE {sz:Nat}:∀{rows:List (List PV)},wb sz rows→∀r∈rows,r.length=sz
 |r::rows,h,q,hq=>by
  rcases XY.1 hq with rfl|hq
  ·exact h.1
  ·exact qE h.2 q hq
include bT in
theorem PD (lz:X.m≤hl.length){t n:Nat}{parts:List (Nat × Operand)}(ho:o.op= .buildSlice t n ⟨parts⟩)(h:LG T (T t) hl.length e n parts= .res p eff touch side)(hs:side):bv X ops (bG e hl) o {pv:=p,eff:=eff,touch:=touch}:=by
 unfold LG at h;split at h
 ·rename_i ti ht;split at h
  ·rename_i el he;split at h
   ·rename_i te fT;split at h
    ·cases h;exact vU hd ho (bT.t t ti ht) he (bT.t el te fT) (s:=bG e hl) (fD hl) (by omega)
    ·rename_i n' parts';split at h
     ·rename_i rows hr;obtain⟨q1,q2⟩:=CR hr;split at h
      ·rename_i ds dI;have dI:UL rows=some ds:=by
        by_cases hq:te.kind=2
        ·rw[if_pos hq]at dI;cases dI
        ·rw[if_neg hq]at dI;exact dI
       cases h;obtain⟨h1,h2,h3,h4⟩:=hs;obtain⟨g1,g2⟩:=LN dI;refine yv hd ho (bT.t t ti ht) he (bT.t el te fT) rfl h1 (by omega) h2 (by omega) (by simp;omega) (fun j i x hj=>?_);obtain⟨r0,r1,r3⟩:=q2 j i x (by simpa using hj);obtain⟨d,g3,g4⟩:=g2 j _ r1;have aT:=qE h4 _ (Xl r1);refine⟨by omega,d,g3,by rw[ax];exact g4,by rw[ax];exact r3,?_⟩;have:=congrArg List.length (rB g4);rw[XF]at this;omega
      ·cases h;obtain⟨h1,h2,h3,h4⟩:=hs;refine vT hd ho (bT.t t ti ht) he (bT.t el te fT) rfl h1 (by omega) h2 h3 (by simp;omega) (s:=bG e hl) (fD hl) (by omega) (fun j i x hj=>?_);obtain⟨r0,r1,r3⟩:=q2 j i x (by simpa using hj);rw[ax];exact⟨by omega,r1,r3,qE h4 _ (Xl r1)⟩
     ·cases h
    ·cases h
   ·cases h
  ·cases h
 ·cases h
include bT in
theorem LO (lz:X.m≤hl.length){t:Nat}{x y:Operand}(ho:o.op= .makeSlice t x y)(h:CM T (T t) hl.length (du e x) (du e y)= .res p eff touch side)(hs:side):bv X ops (bG e hl) o {pv:=p,eff:=eff,touch:=touch}:=by
 unfold CM at h;split at h
 ·rename_i ti ht;split at h
  ·rename_i el he;split at h
   ·rename_i te fT;split at h
    ·rename_i zv kx n ky m hz hx hy;cases h;obtain⟨h1,h2,h3,h4⟩:=hs;subst h1;exact AT hd ho (bT.t t ti ht) he (bT.t el te fT) hz h2 h3 h4 (s:=bG e hl) (by rw[ax];exact hx) (by rw[ax];exact hy) (fD hl) (by omega)
    ·cases h
   ·cases h
  ·cases h
 ·cases h
include bT in
theorem LP {src dst:Nat}{x:Operand}(ho:o.op= .convert src dst x)(h:CP T (T src) (T dst) (du e x)= .res p eff touch side)(hs:side):bv X ops (bG e hl) o {pv:=p,eff:=eff,touch:=touch}:=by
 unfold CP at h;split at h
 ·rename_i ts td h1 h2;split at h
  ·rename_i k k' n hi hx;cases h;exact Fv hd ho (bT.t _ _ h1) (bT.t _ _ h2) hi ((ax e hl x).trans hx)
  ·rename_i rows hi hx;split at h
   ·rename_i el he;split at h
    ·rename_i te fT;split at h
     ·rename_i xs hb;cases h;exact CE hd ho (bT.t _ _ h1) (bT.t _ _ h2) he (bT.t _ _ fT) hs.1 hs.2 ((ax e hl x).trans hx) hb
     ·cases h
    ·cases h
   ·cases h
  ·cases h
 ·cases h
include bT in
theorem PE {t:Nat}{x:Operand}(ho:o.op= .call ⟨.builtin .len,⟨[x]⟩,⟨[t]⟩⟩)(h:LH (T t) (aw hl) (du e x)= .res p eff touch side)(hs:side):bv X ops (bG e hl) o {pv:=p,eff:=eff,touch:=touch}:=by
 unfold LH at h;split at h
 ·rename_i ti ht;split at h
  ·rename_i el he;split at h
   ·rename_i sz rows hx;cases h;exact Lp (ty:=0) hd ho (bT.t _ _ ht) he ((ax e hl x).trans hx) (.inl ⟨_,_,rfl,rfl⟩)
   ·rename_i hx;cases h;exact Lp (ty:=0) hd ho (bT.t _ _ ht) he ((ax e hl x).trans hx) (.inr ⟨rfl,rfl⟩)
   ·rename_i k g hx;split at h
    ·rename_i E sz g' rows hk;cases h;subst hs;exact Iq hd ho (bT.t _ _ ht) he ((ax e hl x).trans hx) (s:=bG e hl) hk
    ·cases h
   ·rename_i k g sz st n hx;cases h;exact Iw hd ho (bT.t _ _ ht) he ((ax e hl x).trans hx)
   ·cases h
  ·split at h
   ·rename_i a hx;cases h;exact IC hd ho (bT.t _ _ ht) hs ((ax e hl x).trans hx)
   ·cases h
 ·cases h
omit hd in
theorem PF {sz:Nat}{y:PV}{news:List (List PV)}{ty:List Nat}(h:Pz (aw hl) sz y=some (news,ty)):SrcP (bG e hl) sz y news ty:=by
 unfold Pz at h;split at h
 ·split at h
  ·rename_i e1;subst e1;cases h;exact .sl _
  ·cases h
 ·cases h;exact .nil _ _
 ·split at h
  ·rename_i E sz' g' rows hk;split at h
   ·rename_i e1;obtain⟨rfl,rfl⟩:=e1;cases h;exact .own _ _ _ _ hk
   ·cases h
  ·cases h
 ·split at h
  ·rename_i E sz' g' rows hk;split at h
   ·rename_i e1;obtain⟨rfl,rfl,rfl⟩:=e1;cases h;exact .osl _ _ _ _ _ _ hk
   ·cases h
  ·cases h
 ·cases h
include bT in
theorem PG (lz:X.m≤hl.length){t:Nat}{x y:Operand}(ho:o.op= .call ⟨.builtin .append,⟨[x,y]⟩,⟨[t,t]⟩⟩)(h:LI T (T t) hl.length (aw hl) (du e x) (du e y)= .res p eff touch side)(hs:side):bv X ops (bG e hl) o {pv:=p,eff:=eff,touch:=touch}:=by
 unfold LI at h;split at h
 ·rename_i ti ht;split at h
  ·rename_i el he;split at h
   ·rename_i te fT;split at h
    ·cases h
    ·rename_i hz;have nZ:0 < te.size:=by omega
     have uZ:0 < te.bytes:=by omega
     have big:∀m:Nat,m*te.bytes≤140737488355328→m≤9223372036854775807:=fun m hm=>by
      have:=Nat.le_mul_of_pos_right m uZ;omega
     split at h
     ·rename_i news ty sE;have sE:=PF (e:=e) (hl:=hl) sE;rw[←ax e hl]at sE;split at h
      ·rename_i k g hx;split at h
       ·rename_i e' sz g' rows hk;cases h;obtain⟨rfl,rfl,rfl,hb⟩:=hs;exact Ir hd ho (bT.t _ _ ht) he (bT.t _ _ fT) rfl nZ ((ax e hl x).trans hx) (s:=bG e hl) hk sE (big _ hb) hb
       ·cases h
      ·rename_i hx;cases h;exact AN hd ho (bT.t _ _ ht) he (bT.t _ _ fT) rfl nZ ((ax e hl x).trans hx) (s:=bG e hl) (fD hl) (by omega) sE (big _ hs) hs
      ·rename_i k g sz st n hx;split at h
       ·rename_i e' sz' g' rows hk;cases h;obtain⟨rfl,rfl,rfl,rfl,rfl,h1,h2⟩:=hs;exact AO hd ho (bT.t _ _ ht) he (bT.t _ _ fT) rfl nZ ((ax e hl x).trans hx) (s:=bG e hl) hk h1 sE h2
       ·cases h
      ·cases h
     ·cases h
   ·cases h
  ·cases h
 ·cases h
include bT in
theorem IH {t:Nat}{x:Operand}{lo hi mx:Option Operand}(ho:o.op= .slice t x lo hi mx)(h:wd T (T t) (aw hl) (du e x) (lo.map (du e)) (hi.map (du e)) (mx.map (du e))= .res p eff touch side)(hs:side):bv X ops (bG e hl) o {pv:=p,eff:=eff,touch:=touch}:=by
 have hm:∀y:Option Operand,y.map (du e)=y.map (ev (bG e hl)):=fun y=>by cases y<;>simp[ax]
 rw[hm lo,hm hi]at h;unfold wd at h;split at h
 ·rename_i ti ht;split at h
  ·rename_i el he;split at h
   ·rename_i te fT;split at h
    ·rename_i ET;have ET:mx=none:=by simpa using ET
     subst ET;split at h
     ·rename_i sz rows hx;split at h
      ·rename_i l r jV lX;cases h;exact Iu hd ho (bT.t _ _ ht) he (bT.t _ _ fT) hs.1 ((ax e hl x).trans hx) jV lX hs.2.1 hs.2.2
      ·cases h
     ·rename_i k g hx;split at h
      ·rename_i e' sz g' hk;split at h
       ·rename_i l r jV lX;cases h;obtain⟨rfl,rfl,h1,rfl,rfl⟩:=hs;exact AP hd ho (bT.t _ _ ht) he (bT.t _ _ fT) h1 ((ax e hl x).trans hx) (s:=bG e hl) hk jV lX
       ·cases h
      ·rename_i e' sz g' rows bH hk;split at h
       ·rename_i l r jV lX;cases h;obtain⟨rfl,rfl,h1,h2,h3,h4⟩:=hs;exact Ct hd ho (bT.t _ _ ht) he (bT.t _ _ fT) h1 ((ax e hl x).trans hx) (s:=bG e hl) hk h2 jV lX h3 h4
       ·cases h
      ·cases h
     ·rename_i k g sz st n hx;split at h
      ·rename_i e' sz' g' rows hk;split at h
       ·rename_i l r jV lX;cases h;obtain⟨rfl,rfl,rfl,h1,h2,h3,h4⟩:=hs;exact Cu hd ho (bT.t _ _ ht) he (bT.t _ _ fT) h1 ((ax e hl x).trans hx) (s:=bG e hl) hk h2 jV lX h3 h4
       ·cases h
      ·cases h
     ·cases h
    ·rename_i m ET;split at h
     ·rename_i k g k1 n1 k2 n2 k3 n3 hx jV lX;split at h
      ·rename_i e' sz g' rows hk;cases h;obtain⟨rfl,rfl,h1,h2,h3,h4,h5,h6⟩:=hs;cases lo with
       |none=>cases jV
       |some y1=>cases hi with
        |none=>cases lX
        |some y2=>cases mx with
         |none=>cases ET
         |some y3=>
          simp only[Yg,XX.injEq]at jV lX ET;exact Iv hd ho (bT.t _ _ ht) he (bT.t _ _ fT) h1 ((ax e hl x).trans hx) (s:=bG e hl) hk h2 jV lX ((ax e hl y3).trans ET) h3 h4 h5 h6
      ·cases h
     ·cases h
   ·cases h
  ·split at h
   ·rename_i a hx ET;have ET:mx=none:=by simpa using ET
    subst ET;split at h
    ·rename_i l r jV lX;cases h;exact CD hd ho (bT.t _ _ ht) hs.1 ((ax e hl x).trans hx) jV lX hs.2.1 hs.2.2
    ·cases h
   ·cases h
 ·cases h
include bT in
theorem II {t:Nat}{x:Operand}(ho:o.op= .call ⟨.builtin .clear,⟨[x]⟩,⟨[t]⟩⟩)(h:we T (T t) (aw hl) (du e x)= .res p eff touch side)(hs:side):bv X ops (bG e hl) o {pv:=p,eff:=eff,touch:=touch}:=by
 unfold we at h;split at h
 ·rename_i ti ht;split at h
  ·rename_i el he;split at h
   ·rename_i te fT;split at h
    ·rename_i k g sz st n hx;split at h
     ·rename_i e' sz' g' rows hk;cases h;obtain⟨rfl,rfl,rfl,h1,h2,h3⟩:=hs;exact Cs hd ho (bT.t _ _ ht) he (bT.t _ _ fT) h1 ((ax e hl x).trans hx) (s:=bG e hl) hk h2 h3
     ·cases h
    ·cases h
   ·cases h
  ·cases h
 ·cases h
include bT in
theorem IJ {t:Nat}{x y:Operand}(ho:o.op= .store t x y)(h:wc (T t) (aw hl) o.dst (du e x) (du e y)= .res p eff touch side)(hs:side):bv X ops (bG e hl) o {pv:=p,eff:=eff,touch:=touch}:=by
 unfold wc at h;split at h
 ·rename_i ti ht tW;split at h
  ·rename_i k off hx;split at h
   ·rename_i TT cells hk;split at h
    ·rename_i cC;cases h;have:=Lt (X:=X) (ops:=ops) hd ho tW (bT.t _ _ ht) ((ax e hl x).trans hx) (s:=bG e hl) hk (y:=y) (by rw[ax];exact cC) (by rw[ax];exact hs.1) hs.2;rwa [ax]at this
    ·cases h
   ·cases h
  ·rename_i k g sz i j hx;split at h
   ·rename_i E sz' g' rows hk;split at h
    ·rename_i row bO;split at h
     ·rename_i cC;cases h;obtain⟨rfl,rfl,h1,h2⟩:=hs;have:=Fq (X:=X) (ops:=ops) hd ho tW (bT.t _ _ ht) ((ax e hl x).trans hx) (s:=bG e hl) hk bO (y:=y) (by rw[ax];exact cC) (by rw[ax];exact h1) h2;rwa [ax]at this
     ·cases h
    ·cases h
   ·cases h
  ·cases h
 ·cases h
theorem CS (lz:X.m≤hl.length){t:Nat}(ho:o.op= .makeMap t none)(h:oL (T t) hl.length= .res p eff touch side):bv X ops (bG e hl) o {pv:=p,eff:=eff,touch:=touch}:=by
 unfold oL at h;split at h
 ·split at h
  ·cases h;exact Fu hd ho (s:=bG e hl) (fD hl) (by omega)
  ·cases h
 ·cases h
include bT in
theorem IK (lz:X.m≤hl.length){t:Nat}{m:Operand}(ho:o.op= .range t m)(h:wg (T t) (aw hl) hl.length (du e m)= .res p eff touch side)(hs:side):bv X ops (bG e hl) o {pv:=p,eff:=eff,touch:=touch}:=by
 unfold wg at h;split at h
 ·rename_i ti ht;split at h
  ·rename_i n sB V1;split at h
   ·rename_i k hm;split at h
    ·rename_i n' sB' ents hk;cases h;obtain⟨rfl,rfl⟩:=hs;exact Lz (X:=X) (ops:=ops) hd ho (bT.m _ _ _ _ ht V1) ((ax e hl m).trans hm) (s:=bG e hl) hk (fD hl) (by omega)
    ·cases h
   ·cases h
  ·cases h
 ·cases h
omit bT in
theorem IL {x:Operand}(ho:o.op= .entry x)(h:wh (aw hl) (du e x)= .res p eff touch side):bv X ops (bG e hl) o {pv:=p,eff:=eff,touch:=touch}:=by
 unfold wh at h;split at h
 ·rename_i k hx;split at h
  ·rename_i n sB ents seen hk;split at h
   ·rename_i i hi;split at h
    ·rename_i kv H9;cases h;exact LB (X:=X) (ops:=ops) hd ho ((ax e hl x).trans hx) (s:=bG e hl) hk hi H9
    ·cases h
   ·cases h
  ·cases h
 ·cases h
include bT in
theorem Fz {t:Nat}{m x:Operand}{ok:Bool}(ho:o.op= .lookup t m x ok)(h:rH (T t) (aw hl) (du e m) (du e x) ok= .res p eff touch side)(hs:side):bv X ops (bG e hl) o {pv:=p,eff:=eff,touch:=touch}:=by
 unfold rH at h;split at h
 ·rename_i ti ht;split at h
  ·rename_i n sB V1;split at h
   ·rename_i k hm;split at h
    ·rename_i n' sB' ents hk;split at h
     ·rename_i xs hx;cases h;obtain⟨rfl,rfl,h3⟩:=hs;exact Iy (X:=X) (ops:=ops) hd ho (bT.m _ _ _ _ ht V1) ((ax e hl m).trans hm) (s:=bG e hl) hk (by rw[ax];exact hx) h3
     ·cases h
    ·cases h
   ·cases h
  ·cases h
 ·cases h
include bT in
theorem zD {t:Nat}{m x y:Operand}(ho:o.op= .mapUpdate t m x y∨o.op= .insert t m x y)(h:s6 (T t) (aw hl) o.dst (du e m) (du e x) (du e y)= .res p eff touch side)(hs:side):bv X ops (bG e hl) o {pv:=p,eff:=eff,touch:=touch}:=by
 unfold s6 at h;split at h
 ·rename_i ti ht tW;split at h
  ·rename_i n sB V1;split at h
   ·rename_i k hm;split at h
    ·rename_i n' sB' ents hk;split at h
     ·rename_i xs v hx hy;cases h;obtain⟨rfl,rfl,h3⟩:=hs;exact AR (X:=X) (ops:=ops) hd ho tW (bT.m _ _ _ _ ht V1) ((ax e hl m).trans hm) (s:=bG e hl) hk (by rw[ax];exact hx) h3 ((ax e hl y).trans hy)
     ·cases h
    ·cases h
   ·cases h
  ·cases h
 ·cases h
end
section
variable {X:Cfg}{ops:Array Oper}{e:cm}{hl:List Chunk}{o:Oper}{T:Nat→Option TI}{Q:Nat→Option Nat}(bT:TabOK X.P T Q)(hd:∀d,o.dst=some d→d < X.n)
include bT hd
theorem LQ (lz:X.m≤hl.length){p:PV}{eff:List (Nat × Chunk)}{touch:List Nat}{side:Prop}(h:O6 T Q e hl o= .res p eff touch side)(hs:side):bv X ops (bG e hl) o {pv:=p,eff:=eff,touch:=touch}:=by
 unfold O6 at h;split at h
 ·rename_i x ho;cases h;have:=Pr (X:=X) (ops:=ops) (s:=bG e hl) hd ho;rwa [ax]at this
 ·rename_i x ho;cases h;have:=Io (X:=X) (ops:=ops) (s:=bG e hl) hd ho;rwa [ax]at this
 ·rename_i ho;exact LJ hd ho h hs
 ·rename_i ho;exact SV hd ho h hs
 ·rename_i ho;exact PA hd ho h hs
 ·rename_i ho;exact PC bT hd ho h hs
 ·rename_i ho;exact PB bT hd ho h hs
 ·rename_i ho;exact ID bT hd ho h hs
 ·rename_i ho;exact LL bT hd ho h hs
 ·rename_i ho;exact IE bT hd ho h hs
 ·rename_i ho;exact IF bT hd ho h hs
 ·rename_i ho;exact LM hd ho h hs
 ·rename_i t ho;split at h
  ·rename_i ti ht;cases h;exact Ls hd ho (bT.t _ _ ht) (s:=bG e hl) (fD hl) (by omega)
  ·cases h
 ·rename_i t x ho;split at h
  ·rename_i cC;cases h;have:=SP (X:=X) (ops:=ops) (s:=bG e hl) hd ho (fD hl) (by omega) (by rw[ax];exact cC);rwa [ax]at this
  ·cases h
 ·rename_i ho;exact IJ bT hd ho h hs
 ·rename_i ho;exact IG bT hd ho h hs
 ·rename_i ho;exact PD bT hd lz ho h hs
 ·rename_i g caps ho;cases h;have:=Co (X:=X) (ops:=ops) (s:=bG e hl) hd ho;have e1:(List.map (ev (bG e hl)) caps)=caps.map (du e):=Y2 fun x _=>ax e hl x;simp only at this;rwa [e1]at this
 ·rename_i ho;exact LP bT hd ho h hs
 ·rename_i ho;exact PE bT hd ho h hs
 ·rename_i ho;exact IH bT hd ho h hs
 ·rename_i ho;exact II bT hd ho h hs
 ·rename_i x y t t' ho;split at h
  ·rename_i e1;subst e1;exact PG bT hd lz ho h hs
  ·cases h
 ·rename_i x y tys ho;split at h
  ·rename_i k m k' n hx hy;split at h
   ·rename_i e1;subst e1;cases h;exact SQ hd ho ((ax e hl x).trans hx) ((ax e hl y).trans hy)
   ·cases h
  ·cases h
 ·rename_i x y tys ho;split at h
  ·rename_i k m k' n hx hy;split at h
   ·rename_i e1;subst e1;cases h;exact SS hd ho ((ax e hl x).trans hx) ((ax e hl y).trans hy)
   ·cases h
  ·cases h
 ·unfold CQ at h;split at h<;>cases h
 ·rename_i ho;exact LO bT hd lz ho h hs
 ·rename_i ho;exact CS hd lz ho h
 ·rename_i ho;exact Fz bT hd ho h hs
 ·rename_i ho;exact IK bT hd lz ho h hs
 ·rename_i ho;exact IL hd ho h
 ·rename_i ho;exact zD bT hd (.inl ho) h hs
 ·rename_i ho;exact zD bT hd (.inr ho) h hs
 ·cases h
omit bT hd in
theorem LR {g:Nat}{ps:List PV}(h:O6 T Q e hl o= .call g ps):∃(fo:Operand) (args:List Operand) (tys:Array Nat) (caps:List PV),o.op= .call ⟨.value fo,⟨args⟩,tys⟩∧(du e fo= .clo g caps∨∃cd:List D,du e fo= .d (.clo g cd)∧caps=cd.map .d)∧ps=args.map (du e)++caps:=by
 have key:∀(fo:Operand) (args:List Operand) (tys:Array Nat),o.op= .call ⟨.value fo,⟨args⟩,tys⟩→CQ (du e fo) (args.map (du e))= .call g ps→∃(fo:Operand) (args:List Operand) (tys:Array Nat) (caps:List PV),o.op= .call ⟨.value fo,⟨args⟩,tys⟩∧(du e fo= .clo g caps∨∃cd:List D,du e fo= .d (.clo g cd)∧caps=cd.map .d)∧ps=args.map (du e)++caps:=by
  intro fo args tys ho h;unfold CQ at h;split at h
  ·rename_i g' caps T9;cases h;exact⟨fo,args,tys,caps,ho,.inl T9,rfl⟩
  ·rename_i g' cd T9;cases h;exact⟨fo,args,tys,_,ho,.inr ⟨cd,T9,rfl⟩,rfl⟩
  ·cases h
 unfold O6 at h;split at h<;>first
  |(rename_i ho;exact key _ _ _ ho h)
  |(exfalso;revert h;unfold rG;repeat(first|(split)|(intro h;cases h)))
  |(exfalso;revert h;unfold U7;repeat(first|(split)|(intro h;cases h)))
  |(exfalso;revert h;unfold LC;repeat(first|(split)|(intro h;cases h)))
  |(exfalso;revert h;unfold LF;repeat(first|(split)|(intro h;cases h)))
  |(exfalso;revert h;unfold LD;repeat(first|(split)|(intro h;cases h)))
  |(exfalso;revert h;unfold vX;repeat(first|(split)|(intro h;cases h)))
  |(exfalso;revert h;unfold CJ;repeat(first|(split)|(intro h;cases h)))
  |(exfalso;revert h;unfold vZ;repeat(first|(split)|(intro h;cases h)))
  |(exfalso;revert h;unfold vY;repeat(first|(split)|(intro h;cases h)))
  |(exfalso;revert h;unfold zB;repeat(first|(split)|(intro h;cases h)))
  |(exfalso;revert h;unfold wc;repeat(first|(split)|(intro h;cases h)))
  |(exfalso;revert h;unfold wa;repeat(first|(split)|(intro h;cases h)))
  |(exfalso;revert h;unfold LG;repeat(first|(split)|(intro h;cases h)))
  |(exfalso;revert h;unfold CP;repeat(first|(split)|(intro h;cases h)))
  |(exfalso;revert h;unfold LH;repeat(first|(split)|(intro h;cases h)))
  |(exfalso;revert h;unfold LI;repeat(first|(split)|(intro h;cases h)))
  |(exfalso;revert h;unfold wd;repeat(first|(split)|(intro h;cases h)))
  |(exfalso;revert h;unfold we;repeat(first|(split)|(intro h;cases h)))
  |(exfalso;revert h;unfold CM;repeat(first|(split)|(intro h;cases h)))
  |(exfalso;revert h;unfold oL;repeat(first|(split)|(intro h;cases h)))
  |(exfalso;revert h;unfold rH;repeat(first|(split)|(intro h;cases h)))
  |(exfalso;revert h;unfold wg;repeat(first|(split)|(intro h;cases h)))
  |(exfalso;revert h;unfold wh;repeat(first|(split)|(intro h;cases h)))
  |(exfalso;revert h;unfold s6;repeat(first|(split)|(intro h;cases h)))
  |(exfalso;revert h;repeat(first|(split)|(intro h;cases h)))
end
def fE (e:cm)(dst:Option Nat)(p:PV):cm:=
 match dst with
 |some d=>(d,p)::e
 |none=>e
def bu:List Chunk→Nat→Chunk→List Chunk
 |[],0,c=>[c]
 |[],_+1,_=>[]
 |_::l,0,c=>c::l
 |a::l,k+1,c=>a::bu l k c
def qF:List (Nat × Chunk)→List Chunk→List Chunk
 |[],h=>h
 |(k,c)::l,h=>bu (qF l h) k c
theorem fO:∀{h:List Chunk}{k:Nat}{c:Chunk},k≤h.length→∀k',aw (bu h k c) k'=if k'=k then c else aw h k'
 |[],0,c,_,k'=>by cases k'<;>simp[bu,aw]
 |[],k+1,c,h,k'=>by simp at h
 |a::l,0,c,_,k'=>by cases k'<;>simp[bu,aw]
 |a::l,k+1,c,h,k'=>by
  cases k' with
  |zero=>simp[bu,aw]
  |succ k'=>
   simp only[bu,aw];rw[fO (by simpa using h)];simp
theorem CU:∀{h:List Chunk}{k:Nat}{c:Chunk},h.length≤(bu h k c).length
 |[],0,c=>by simp[bu]
 |[],k+1,c=>by simp[bu]
 |a::l,0,c=>by simp[bu]
 |a::l,k+1,c=>by
  have:=CU (h:=l) (k:=k) (c:=c);simpa[bu]using this
theorem rJ:∀{eff:List (Nat × Chunk)}{h:List Chunk},h.length≤(qF eff h).length
 |[],_=>XC _
 |(_,_)::_,_=>Yu rJ CU
theorem ta:∀{eff:List (Nat × Chunk)}{h:List Chunk},(∀kc∈eff,kc.1≤h.length)→∀k',aw (qF eff h) k'=cz eff (aw h) k'
 |[],_,_,_=>rfl
 |(k,c)::l,h,hk,k'=>by
  simp only[qF,cz];rw[fO (Yu (hk (k,c) (by simp)) rJ),ta fun kc Pa=>hk kc (by simp[Pa])]
theorem px {e:cm}{h:List Chunk}{dst:Option Nat}{p:PV}{eff:List (Nat × Chunk)}{touch:List Nat}(hk:∀kc∈eff,kc.1≤h.length):(bG e h).app dst {pv:=p,eff:=eff,touch:=touch}=bG (fE e dst p) (qF eff h):=by
 have h1:aw (qF eff h)=cz eff (aw h):=funext (ta hk);cases dst with
 |none=>simp only[FS.app,FS.put,bG,fE,h1]
 |some d=>
  simp only[FS.app,FS.put,bG,fE,h1];congr 1
theorem rK:∀{h:List Chunk}{k:Nat}{c:Chunk},k < h.length→(bu h k c).length=h.length
 |a::l,0,c,_=>rfl
 |a::l,k+1,c,hk=>by simp only[bu,XD];rw[rK (by simpa using hk)]
theorem CV:∀{h:List Chunk}{c:Chunk},(bu h h.length c).length=h.length+1
 |[],c=>rfl
 |a::l,c=>by simp only[bu,XD];rw[CV]
def gJ (ρ:Nat→Nat):Nat→List Chunk→List Chunk→List Chunk
 |_,[],h=>h
 |j,c::l,h=>gJ ρ (j+1) l (bu h (ρ j) (lA ρ c))
theorem wj {ρ:Nat→Nat}(inj:∀i j,ρ i=ρ j→i=j){c:Chunk}:∀(l:List Chunk) (i j:Nat) (h:Nat→Chunk),j < i→∀k,cz (j0 ρ i l) (fun k'=>if k'=ρ j then c else h k') k=if k=ρ j then c else cz (j0 ρ i l) h k
 |[],i,j,h,hj,k=>rfl
 |d::l,i,j,h,hj,k=>by
  simp only[j0,cz];by_cases e:k=ρ i
  ·rw[if_pos e,if_pos e,if_neg (fun e2=>by have:=inj _ _ (e.symm.trans e2);omega)]
  ·rw[if_neg e,if_neg e];exact wj inj l (i+1) j h (by omega) k
theorem wk {ls:List Nat}{nk:Nat}(lw:ls.Nodup)(hlt:∀k∈ls,k < nk):∀(l:List Chunk) (i:Nat) (h:List Chunk),(i≤ls.length→h.length=nk)→(ls.length≤i→h.length=nk+(i - ls.length))→
 (∀k,aw (gJ (eh ls nk) i l h) k=cz (j0 (eh ls nk) i l) (aw h) k)∧h.length≤(gJ (eh ls nk) i l h).length
 |[],i,h,_,_=>⟨fun _=>rfl,XC _⟩
 |c::l,i,h,h1,h2=>by
  have inj:∀i j,eh ls nk i=eh ls nk j→i=j:=fun i j e=>AU lw hlt e;rcases XO i ls.length with hi|hi
  ·have aT:=h1 (by omega);have hk:eh ls nk i < h.length:=by rw[aT];exact hlt _ (Xl (ng hi))
   have jQ:=rK (c:=lA (eh ls nk) c) hk;obtain⟨q1,q2⟩:=wk lw hlt l (i+1) (bu h (eh ls nk i) (lA (eh ls nk) c)) (fun _=>jQ.trans aT) (fun hge=>by rw[jQ,aT];omega);refine⟨fun k=>?_,by rw[jQ]at q2;exact q2⟩;simp only[gJ,j0,cz];rw[q1 k,show aw (bu h (eh ls nk i) (lA (eh ls nk) c))=fun k'=>if k'=eh ls nk i then lA (eh ls nk) c else aw h k' from funext (fO (G' hk))];exact wj inj l (i+1) i _ (by omega) k
  ·have aT:=h2 hi;have hk:eh ls nk i=h.length:=by
    have:=jZ ls nk (i - ls.length);rw[show ls.length+(i - ls.length)=i by omega]at this;omega
   have jQ:(bu h (eh ls nk i) (lA (eh ls nk) c)).length=h.length+1:=by rw[hk];exact CV
   obtain⟨q1,q2⟩:=wk lw hlt l (i+1) (bu h (eh ls nk i) (lA (eh ls nk) c)) (fun hge=>by omega) (fun _=>by rw[jQ,aT];omega);refine⟨fun k=>?_,Yu (by omega) q2⟩;simp only[gJ,j0,cz];rw[q1 k,show aw (bu h (eh ls nk i) (lA (eh ls nk) c))=fun k'=>if k'=eh ls nk i then lA (eh ls nk) c else aw h k' from funext (fO (by omega))];exact wj inj l (i+1) i _ (by omega) k
def AY (dj:Option Nat)(e:cm):Option (Option Bool):=
 match dj with
 |none=>some none
 |some t=>match eG e t with
  | .d (.v (.bool b))=>some (some b)
  | .d (.v (.tuple _))=>some none
  |_=>none
def tb (ds:List (Option Nat))(e:cm)(o:Oper):Option Bool:=
 match o.guard with
 |none=>some true
 |some (j,want)=>(AY (ds.getD j none) e).map (·==some want)
theorem IM {ops:Array Oper}{e:cm}{h:List Chunk}{o:Oper}:oA ops (bG e h) o=tb (ops.toList.map (·.dst)) e o:=by
 unfold oA tb;cases o.guard with
 |none=>rfl
 |some jw=>
  obtain⟨j,want⟩:=jw;simp only;congr 1;unfold AG AY;have:(ops[j]?).bind (·.dst)=(ops.toList.map (·.dst)).getD j none:=by
   simp only[XE,XA,X2];cases ops[j]? <;>rfl
  rw[this];rfl
def LU (n:Nat)(o:Oper):Bool:=match o.dst with|some d=>decide (d < n)|none=>true
def U8 (h:Nat→Chunk)(ps:List PV):Option (List D):=cA (vw h) ps
def SW (h:Nat→Chunk)(ps:List PV):List Nat:=iI (tc h) ps
def qG (ls:List Nat)(nk n:Nat):List Nat:=(X3 n).map (eh ls nk)
def AZ (P:Program)(r:SR)(dst:Option Nat)(e:cm)(h:List Chunk)(sm:List (List Nat × List Nat))(R:cm→List Chunk→List (List Nat × List Nat)→Prop):Prop:=
 match r with
 | .no=>False
 | .res p eff touch side=>side∧(eff.all fun kc=>decide (kc.1≤h.length))=true∧R (fE e dst p) (qF eff h) ((eff.map (·.1),touch)::sm)
 | .call g ps=>(∃ds r,U8 (aw h) ps=some ds∧ae P g ds r∧(SW (aw h) ps=[]∨r.flat=true)∧R (fE e dst (.d r)) h (([],SW (aw h) ps)::sm))∨
  (∃ls args h0 r h1,MSpec P g args h0 r h1∧ps=ig (eh ls h.length) args∧ls.length=h0.length∧ls.Nodup∧(∀k∈ls,k < h.length)∧aZ (aw h) (eh ls h.length) 0 h0∧
   R (fE e dst (ren (eh ls h.length) r)) (gJ (eh ls h.length) 0 h1 h) ((qG ls h.length h1.length,qG ls h.length h1.length)::sm))∨
  ∃ls args h0 r,MSpec P g args h0 r h0∧ps=ig (eh ls h.length) args∧ls.length=h0.length∧ls.Nodup∧(∀k∈ls,k < h.length)∧aZ (aw h) (eh ls h.length) 0 h0∧
   R (fE e dst (ren (eh ls h.length) r)) h (([],qG ls h.length h0.length)::sm)
def uN (P:Program)(n:Nat)(T:Nat→Option TI)(Q:Nat→Option Nat)(draw:Bool)(ops:Array Oper)(ds:List (Option Nat)):List Oper→cm→List Chunk→List (List Nat × List Nat)→(cm→List Chunk→Prop)→Prop
 |[],e,h,sm,K=>(draw=true→(oC ops sm.reverse&&oE ops)=true)∧K e h
 |o::l,e,h,sm,K=>
  match tb ds e o with
  |some g=>
   LU n o=true∧
   (g=true→AZ P (O6 T Q e h o) o.dst e h sm (fun e' h' sm'=>uN P n T Q draw ops ds l e' h' sm' K))∧
   (g=false→uN P n T Q draw ops ds l (fE e o.dst (.d (.v undef))) h (([],[])::sm) K)
  |none=>False
theorem wl {X:Cfg}{T:Nat→Option TI}{Q:Nat→Option Nat}(bT:TabOK X.P T Q){draw:Bool}{ops:Array Oper}{K:cm→List Chunk→Prop}:∀(l:List Oper) (i:Nat) (e:cm) (h:List Chunk) (sm:List (List Nat × List Nat)),X.m≤h.length→ops.toList.drop i=l→i≤ops.size→
 uN X.P X.n T Q draw ops (ops.toList.map (·.dst)) l e h sm K→∃its e' h',jX X ops (bG e h) i its∧sR (bG e h) its=bG e' h'∧(draw=true→(oC ops (sm.reverse++Fj its)&&oE ops)=true)∧K e' h'
 |[],i,e,h,sm,lz,hl,hi,hs=>by
  refine⟨[],e,h,?_,rfl,by simpa[Fj]using hs.1,hs.2⟩;have:=congrArg List.length hl;simp at this;simp only[jX];omega
 |o::l,i,e,h,sm,lz,hl,hi,hs=>by
  have hlt:i < ops.size:=by
   have:=congrArg List.length hl;simp at this;omega
  have Sm:ops[i]? =some o:=by
   have:=Yk (xs:=ops.toList) (i:=i) (j:=0);rw[hl]at this;simpa using this.symm
  have hl':ops.toList.drop (i+1)=l:=by
   rw[←List.drop_drop,hl];rfl
  unfold uN at hs;split at hs
  ·rename_i g hg;obtain⟨tW,h1,h2⟩:=hs;have hd:∀d,o.dst=some d→d < X.n:=by
    intro d hd;unfold LU at tW;rw[hd]at tW;simpa using tW
   have V2:oA ops (bG e h) o=some g:=IM.trans hg;have step:∀(res:Res) (e2:cm) (h2:List Chunk),Lc X ops (bG e h) ⟨o,g,res⟩→(bG e h).app o.dst res=bG e2 h2→h.length≤h2.length→uN X.P X.n T Q draw ops (ops.toList.map (·.dst)) l e2 h2 ((res.eff.map (·.1),res.touch)::sm) K→
    ∃its e' h',jX X ops (bG e h) i its∧sR (bG e h) its=bG e' h'∧(draw=true→(oC ops (sm.reverse++Fj its)&&oE ops)=true)∧K e' h':=by
    intro res e2 h2 KD V3 aT hs;obtain⟨its,e',h',t1,t2,t3,t4⟩:=wl bT l (i+1) e2 h2 _ (by omega) hl' (by omega) hs;refine⟨⟨o,g,res⟩::its,e',h',⟨Sm,KD,by rw[V3];exact t1⟩,?_,fun Pc=>?_,t4⟩
    ·show sR ((bG e h).app o.dst res) its=_;rw[V3];exact t2
    ·have:=t3 Pc;simpa[Fj]using this
   cases g with
   |true=>
    have h1:=h1 rfl;unfold AZ at h1;split at h1
    ·exact h1.elim
    ·rename_i p eff touch side l9;obtain⟨V4,a0r,xW⟩:=h1;have hk:∀kc∈eff,kc.1≤h.length:=fun kc Pa=>by
      have:=XB.1 a0r kc Pa;simpa using this
     exact step ⟨p,eff,touch⟩ _ _ ⟨V2,fun _=>LQ bT hd lz l9 V4,fun hf=>by cases hf⟩ (px hk) rJ xW
    ·rename_i g ps l9;obtain⟨fo,args,tys,caps,ho,hf,rfl⟩:=LR l9;have e1:(List.map (ev (bG e h)) args)=args.map (du e):=Y2 fun x _=>ax e h x;have hf':ev (bG e h) fo= .clo g caps∨∃cd:List D,ev (bG e h) fo= .d (.clo g cd)∧caps=cd.map .d:=by rw[ax];exact hf
     rcases h1 with⟨ds,r,hv,hp,jC,xW⟩|⟨ls,margs,h0,r,xX,hM,kg,g1,g2,g3,g4,xW⟩|⟨ls,margs,h0,r,hM,kg,g1,g2,g3,g4,xW⟩
     ·have:=Pv (X:=X) (ops:=ops) (s:=bG e h) hd ho hf' (by simp only;rw[e1];exact hv) hp (by simp only;rw[e1];exact jC);simp only at this;rw[e1]at this;exact step ⟨.d r,[],_⟩ _ h ⟨V2,fun _=>this,fun hf=>by cases hf⟩ (px (fun kc h=>by simp at h)) (XC _) xW
     ·have:=CA (X:=X) (ops:=ops) (s:=bG e h) (ls:=ls) (nk:=h.length) hd ho hf' hM (by simp only;rw[e1];exact kg) g1 g2 g3 g4 (fun i _=>mw h (h.length+i) (by omega)) lz;obtain⟨q1,q2⟩:=wk g2 g3 xX 0 h (fun _=>rfl) (fun h0=>by omega);refine step ⟨_,_,_⟩ (fE e o.dst (ren (eh ls h.length) r)) (gJ (eh ls h.length) 0 xX h) ⟨V2,fun _=>this,fun hf=>by cases hf⟩ ?_ q2 ?_
      ·have h3:aw (gJ (eh ls h.length) 0 xX h)=cz (j0 (eh ls h.length) 0 xX) (aw h):=funext q1;cases hdd:o.dst with
       |none=>simp only[FS.app,FS.put,bG,fE,h3]
       |some d=>
        simp only[FS.app,FS.put,bG,fE,h3];congr 1
      ·have h4:(j0 (eh ls h.length) 0 xX).map (·.1)=qG ls h.length xX.length:=by
        rw[sZ];exact Y2 fun j _=>by rw[XK]
       simp only;rw[h4];exact xW
     ·have:=Ly (X:=X) (ops:=ops) (s:=bG e h) (ls:=ls) (nk:=h.length) hd ho hf' hM (by simp only;rw[e1];exact kg) g1 g2 g3 g4 lz;exact step ⟨ren (eh ls h.length) r,[],_⟩ _ h ⟨V2,fun _=>this,fun hf=>by cases hf⟩ (px (fun kc h=>by simp at h)) (XC _) xW
   |false=>
    exact step Fh _ h ⟨V2,(fun hf=>(by cases hf)),fun _=>⟨rfl,hd⟩⟩ (px (fun kc h=>by simp at h)) (XC _) (h2 rfl)
  ·exact hs.elim
theorem A0 {X:Cfg}{T:Nat→Option TI}{Q:Nat→Option Nat}(bT:TabOK X.P T Q)(hm:X.P.follows .mixedOrders=true){id:Nat}{draw:Bool}{ops:Array Oper}{K:cm→List Chunk→Prop}{e:cm}{h:List Chunk}{a:Act}{w:World}{R:Exit→Act→World→Prop}(lz:X.m≤h.length)
 (hs:uN X.P X.n T Q draw ops (ops.toList.map (·.dst)) ops.toList e h [] K) (hr:jW X (bG e h) a w) (hR:∀e' h' a' w',K e' h'→jW X (bG e' h') a' w'→R .normal a' w'):(Code.region id ops draw).wp X.P R a w:=by
 obtain⟨its,e',h',t1,t2,t3,t4⟩:=wl bT ops.toList 0 e h [] lz rfl (XL _) hs;refine Cg hm id draw t1 (fun hd=>?_) hr (fun a' w' hr'=>hR e' h' a' w' t4 (by rw[←t2];exact hr'));have:=t3 hd;simpa using this
def eo (P:Program)(n m:Nat)(e:cm)(h:List Chunk)(e':cm)(h':List Chunk):Prop:=∀X:Cfg,X.P=P→X.n=n→X.m=m→∀a w,jW X (bG e h) a w→jW X (bG e' h') a w
def RK (X:Cfg)(K:Exit→cm→List Chunk→Prop)(x:Exit)(a:Act)(w:World):Prop:=∃e h,K x e h∧jW X (bG e h) a w
def uh (P:Program)(n m:Nat)(c:Code)(K:Exit→cm→List Chunk→Prop)(e:cm)(h:List Chunk):Prop:=∀X:Cfg,X.P=P→X.n=n→X.m=m→∀a w,jW X (bG e h) a w→c.wp P (RK X K) a w
def qH:List PV→Nat→cm
 |[],_=>[]
 |p::l,i=>(i,p)::qH l (i+1)
theorem zF:∀(ps:List PV) (i t:Nat),eG (qH ps i) t=if i≤t then (match ps[t - i]? with|some p=>p|none=> .any)else .any
 |[],i,t=>by simp[qH,eG]
 |d::l,i,t=>by
  simp only[qH,eG];by_cases h:t=i
  ·subst h;simp
  ·rw[if_neg h,zF l (i+1) t];by_cases h2:i≤t
   ·rw[if_pos h2,if_pos (by omega),show t - i=(t - (i+1))+1 by omega,YJ]
   ·rw[if_neg h2,if_neg (by omega)]
def G5 (T:Nat→Option TI)(e:cm)(h:List Chunk):ResultVar→Option PV
 | .tmp t=>some (eG e t)
 | .cell a t=>
  match eG e a,T t with
  | .ptr k off,some ti=>
   match aw h k with
   | .box _ cells=>
    if off+ti.size≤cells.length then
     if ti.agg then some (sS ((cells.drop off).take ti.size))
     else match cells.drop off with
      |p::_=>if ti.size=1 then some p else none
      |[]=>none
    else none
   |_=>none
  |_,_=>none
def qb (T:Nat→Option TI)(e:cm)(h:List Chunk):List ResultVar→Option (List PV)
 |[]=>some []
 |r::l=>match G5 T e h r,qb T e h l with|some d,some ds=>some (d::ds)|_,_=>none
def yz:List PV→PV
 |[p]=>p
 |ps=>Lj ps
def ap (d d':D):Prop:=∀(M:Nat→Prop) (w:World) (v:Value),RepD M w d v→RepD M w d' v
theorem ap.refl (d:D):ap d d:=fun _ _ _ h=>h
theorem ap.nil (sz:Nat):ap (.v (.slice none 0 0)) (.sl sz []):=fun _ _ _ h=>by cases h;exact .nil _ _ _ (by omega)
def tf:List D→List D→Prop
 |[],[]=>True
 |a::l,b::m=>ap a b∧tf l m
 |_,_=>False
theorem vl:∀{l m:List D},tf l m→l.length=m.length∧∀(j:Nat) (a b:D),l[j]? =some a→m[j]? =some b→ap a b
 |[],[],_=>⟨rfl,fun j a b h=>by simp at h⟩
 |[],_::_,h=>h.elim
 |_::_,[],h=>h.elim
 |a::l,b::m,⟨h1,h2⟩=>by
  obtain⟨q1,q2⟩:=vl h2;refine⟨by simp[q1],fun j x y hx hy=>?_⟩;cases j with
  |zero=>simp at hx hy;subst hx;subst hy;exact h1
  |succ j=>exact q2 j x y (by simpa using hx) (by simpa using hy)
theorem wm {M:Nat→Prop}{w:World}{l m:List D}{vs:List Value}(h:tf l m)(hr:co M w l vs):co M w m vs:=by
 obtain⟨q1,q2⟩:=vl h;refine⟨q1 ▸ hr.1,fun j d x hj hx=>?_⟩;have hlt:j < l.length:=by rw[q1];exact(Xo.1 hj).1
 have hl:l[j]? =some l[j]:=Xj hlt;exact q2 j _ d hl hj M w x (hr.2 j _ x hl hx)
theorem ap.agg {l m:List D}(h:tf l m)(h1:m.all D.one=true):ap (.agg l) (.agg m):=fun M w v hr=>by
 cases hr with
 |agg _ vs hl _ aY=>
  have:=wm h ⟨hl,aY⟩;exact .agg m vs this.1 (by simpa using h1) this.2
theorem ap.tup {l m:List D}(h:tf l m):ap (.tup l) (.tup m):=fun M w v hr=>by
 cases hr with
 |tup _ vs hl aY=>
  have:=wm h ⟨hl,aY⟩;exact .tup m vs this.1 this.2
theorem ae.args {P:Program}{f:Nat}{ds ds':List D}{r:D}(h:ae P f ds' r)(hd:tf ds ds'):ae P f ds r:=⟨h.1,fun M w vs hM hG dI=>h.2 M w vs hM hG (wm hd dI)⟩
theorem ae.res {P:Program}{f:Nat}{ds:List D}{r r':D}(h:ae P f ds r)(hr:ap r r'):ae P f ds r':=⟨h.1,fun M w vs hM hG dI=>(h.2 M w vs hM hG dI).mono fun e w' ⟨v,he,hv,hx⟩=>⟨v,he,hr M w' v hv,hx⟩⟩
def rL (T:Nat→Option TI)(rs:List ResultVar)(r:D)(x:Exit)(e:cm)(h:List Chunk):Prop:=(x= .normal∨x= .ret)∧∃ps d,qb T e h rs=some ps∧vw (aw h) (yz ps)=some d∧ap d r
def yA (P:Program)(m:Nat)(T:Nat→Option TI)(rs:List ResultVar)(r:PV)(h1:List Chunk)(x:Exit)(e:cm)(h:List Chunk):Prop:=(x= .normal∨x= .ret)∧∃ps,qb T e h rs=some ps∧eo P 1 m [(0,yz ps)] h [(0,r)] h1
def qI (tmps:Array Value):ResultVar→Sem Value
 | .tmp t=>pure (tmps.getD t undef)
 | .cell a t=>do loadVar t (←asAddr (tmps.getD a undef))
theorem ui {P:Program}{tmps:Array Value}{w:World}:∀(rs:List ResultVar) (vs:List Value),rs.length=vs.length→
 (∀(j:Nat) (r:ResultVar) (v:Value),rs[j]? =some r→vs[j]? =some v→(qI tmps r).run P w= .ok v w)→(rs.mapM (qI tmps)).run P w= .ok vs w
 |[],[],_,_=>by simp
 |[],_::_,h,_=>by simp at h
 |_::_,[],h,_=>by simp at h
 |r::rs,v::vs,h,hr=>by
  have h0:=hr 0 r v rfl rfl;have ih:=ui (P:=P) (tmps:=tmps) (w:=w) rs vs (by simpa using h) fun j r v h1 h2=>hr (j+1) r v (by simpa using h1) (by simpa using h2);rw[List.mapM_cons,Sem.run_bind,h0];simp only[Result.andThen_ok,Sem.run_bind,ih];rfl
theorem PH {X:Cfg}{T:Nat→Option TI}{Q:Nat→Option Nat}(bT:TabOK X.P T Q){e:cm}{h:List Chunk}{a:Act}{w:World}{c:Cx}(hc:RealC X (bG e h) a w c)(rv:ResultVar)(p:PV)(Ay:G5 T e h rv=some p):
 ∃v,(qI a.tmps rv).run X.P w= .ok v w∧RepP c w p v:=by
 cases rv with
 |tmp t=>cases Ay;exact⟨_,rfl,hc.env t⟩
 |cell b t=>
  simp only[G5]at Ay;split at Ay
  ·rename_i k off ti hb' ht;split at Ay
   ·rename_i TT cells hk;split at Ay
    ·rename_i cM;have bD:=hc.chunk k;have hk':(bG e h).heap k= .box TT cells:=hk;rw[hk']at bD;have Ov:=hc.env b;have nQ:(bG e h).env b= .ptr k off:=hb';rw[nQ]at Ov;generalize hu:a.tmps.getD b undef=u at Ov;cases Ov with
     |ptr _ _ bb Kd=>
      cases bD with
      |box _ _ b'' us hb'' hh yg h1=>
       rw[Kd]at hb'';cases hb'';have hul:us.length=cells.length:=yg.1.symm;have aT:((us.drop off).take ti.size).length=ti.size:=by rw[Xp,XS];omega
       have bY:∀(j:Nat) (v:Value),((us.drop off).take ti.size)[j]? =some v→w.cell? ⟨bb,off+j,none⟩=some v:=fun j v hj=>by
        simp[YQ,hh,(ek hj).2]
       have Su:∀(h0:ti.agg=false→∃v,(us.drop off).take ti.size=[v]),(loadVar t ⟨bb,off,none⟩).run X.P w= .ok (if ti.agg then .agg ((us.drop off).take ti.size).toArray else ((us.drop off).take ti.size).headD undef) w:=by
        intro h0;have:=nc (bT.t t ti ht) w bb off ((us.drop off).take ti.size) aT bY h0;simpa[Instr.loadAt,Instr.sureAddr]using this
       cases pQ:ti.agg with
       |true=>
        rw[pQ,if_pos rfl]at Ay;cases Ay;have hl:=Su (fun h=>by rw[pQ]at h;cases h);rw[pQ,if_pos rfl]at hl;exact⟨_,by simp[qI,hu,asAddr,hl],rC (yg.part off ti.size) (fun d hd=>h1 d (Yb (Yc hd)))⟩
       |false=>
        rw[pQ,if_neg (by simp)]at Ay;split at Ay
        ·rename_i q l Pc;split at Ay
         ·rename_i h1';cases Ay;have hp:=s7 Pc;obtain⟨v,hv⟩:∃v,us[off]? =some v:=⟨us[off]'(by omega),Xj _⟩;have di:(us.drop off).take ti.size=[v]:=by
           rw[h1',YV (by omega)];simp only[ZI,YA];rw[Xj (by omega)]at hv;simpa using hv
          have hl:=Su (fun _=>⟨v,di⟩);rw[pQ,if_neg (by simp),di]at hl;exact⟨v,by simp[qI,hu,asAddr,hl],yg.2 off p v hp hv⟩
         ·cases Ay
        ·cases Ay
    ·cases Ay
   ·cases Ay
  ·cases Ay
theorem G6 {X:Cfg}{T:Nat→Option TI}{Q:Nat→Option Nat}(bT:TabOK X.P T Q){e:cm}{h:List Chunk}{a:Act}{w:World}{c:Cx}(hc:RealC X (bG e h) a w c){fn:Func}{ps:List PV}(fm:qb T e h fn.results.toList=some ps):
 ∃v,(results fn a.tmps).run X.P w= .ok v w∧RepP c w (yz ps) v:=by
 have V5:∀(rs:List ResultVar) (ps:List PV),qb T e h rs=some ps→∃vs:List Value,rs.length=vs.length∧bj c w ps vs∧
  (∀(j:Nat) (r:ResultVar) (v:Value),rs[j]? =some r→vs[j]? =some v→(qI a.tmps r).run X.P w= .ok v w):=by
  intro rs;induction rs with
  |nil=>
   intro ds dI;simp[qb]at dI;subst dI;exact⟨[],rfl,⟨rfl,fun j d x h=>by simp at h⟩,fun j r v h=>by simp at h⟩
  |cons rv rs ih=>
   intro ds dI;simp only[qb]at dI;split at dI
   ·rename_i d ds' h1 h2;cases dI;obtain⟨v,sK,KJ⟩:=PH bT hc rv d h1;obtain⟨vs,g1,g2,g3⟩:=ih ds' h2;refine⟨v::vs,by simp[g1],⟨by simp[g2.1],fun j d x hj hx=>?_⟩,fun j r x hj hx=>?_⟩
    ·cases j with
     |zero=>simp at hj hx;subst hj;subst hx;exact KJ
     |succ j=>exact g2.2 j d x (by simpa using hj) (by simpa using hx)
    ·cases j with
     |zero=>simp at hj hx;subst hj;subst hx;exact sK
     |succ j=>exact g3 j r x (by simpa using hj) (by simpa using hx)
   ·cases dI
 obtain⟨vs,g1,g2,g3⟩:=V5 _ _ fm;have b9:=ui (P:=X.P) (tmps:=a.tmps) (w:=w) fn.results.toList vs g1 g3;have GA:(results fn a.tmps).run X.P w= .ok (if h:vs.length=1 then vs[0]else .tuple vs.toArray) w:=by
  have e1:results fn a.tmps=(do let vs ←fn.results.mapM (qI a.tmps);pure (if h:vs.size=1 then vs[0]else .tuple vs)):=by
   unfold results;congr 1
  rw[e1,Sem.run_bind,Array.mapM_eq_mapM_toList];simp[b9]
 refine⟨_,GA,?_⟩;by_cases h1:vs.length=1
 ·rw[dif_pos h1];obtain⟨d,rfl⟩:=List.length_eq_one_iff.1 (g2.1.trans h1);exact g2.2 0 d _ rfl (Xj (by omega))
 ·rw[dif_neg h1];have:yz ps=Lj ps:=by
   unfold yz;split
   ·exact absurd g2.1.symm h1
   ·rfl
  rw[this];exact Lk g2
theorem CW {c:Cx}{w:World}{ps:List PV}{vs:List Value}{n:Nat}(dI:bj c w ps vs)(t:Nat):RepP c w (eG (qH ps 0) t) ((vs.toArray++Y9 (n - vs.toArray.size) undef).getD t undef):=by
 rw[zF];rw[if_pos (XL _),Yr];cases hd:ps[t]? with
 |none=>exact .any _
 |some d=>
  have hlt:t < vs.length:=by rw[←dI.1];exact(Xo.1 hd).1
  have hv:vs[t]? =some vs[t]:=Xj hlt;have:=dI.2 t d _ hd hv;simp only[Ys,Array.getElem?_append,YB,hlt,if_true,List.getElem?_toArray,hv,Yy];exact this
theorem CX {P:Program}{f:Nat}{fn:Func}{c:Code}{T:Nat→Option TI}{Q:Nat→Option Nat}(bT:TabOK P T Q)(hf:P.funcs[f]? =some fn)(hb:fn.body=some c)(hn:vR P f){ds:List D}{r:D}(hl:ds.length≤fn.ntmps)
 (hp:uh P fn.ntmps 0 c (rL T fn.results.toList r) (qH (ds.map .d) 0) []):ae P f ds r:=by
 refine⟨hn,fun M w vs hM hG dI=>?_⟩;have Sn:vs.length=ds.length:=dI.1.symm;let c0:Cx:={M:=M,bl:=fun _=>none,ov:=fun _ _=>none}
 let X:Cfg:={P:=P,n:=fn.ntmps,m:=0,w0:=w,M0:=M,L:=fun _=>False,c0:=c0}
 have mY:jW X (bG (qH (ds.map .d) 0) []) {tmps:=vs.toArray++Y9 (fn.ntmps - vs.toArray.size) undef,defers:=[]} w:=by
  refine⟨c0,by simp[X];omega,rfl,ExtL.refl _ _,hG.keep ⟨XC _,fun _ _ _=>rfl,fun b _ h=>h.elim id False.elim⟩,fun b hb=>⟨hM b hb,id⟩,fun b=>⟨.inl,fun h=>?_⟩,fun k b h=>?_,fun k k' b h _=>?_,fun t=>CW (pu (c:=c0) dI) t,fun k=>?_,fun k hk=>absurd hk (YT _)⟩
  ·rcases h with h|⟨k,h⟩
   ·exact h
   ·simp[bG,aw,Cx.block]at h
  ·simp[bG,aw,Cx.block]at h
  ·simp[bG,aw,Cx.block]at h
  ·simp only[bG,aw];exact .none rfl fun _=>rfl
 refine calls_of_wp hf hb (wp_mono (hp X rfl rfl rfl _ _ mY) fun ex a w' hq=>?_);obtain⟨e,h,⟨hx,ps,d,fm,hv,hle⟩,hr⟩:=hq;obtain⟨cx,hc⟩:=hr;obtain⟨v,b9,aY⟩:=G6 bT hc fm;have hd:=kF hc (T:=tc (aw h) (yz ps)) 6 hv (fun _ h=>h) aY;have B6:RepD M w' d v:=by
  refine hd.keep ⟨XC _,fun _ _ _=>rfl,fun b _ hb=>⟨(hc.mu b).2 (.inl hb),fun k _ e=>?_⟩⟩;rcases(hc.new k b e).1 with h1|h1
  ·exact h1
  ·have:=(hc.fresh b hb).1;omega
 rcases hx with rfl|rfl
 ·exact⟨hc.defers,v,b9,v,rfl,hle _ _ _ B6,hc.ext.ext⟩
 ·exact⟨hc.defers,v,b9,v,rfl,hle _ _ _ B6,hc.ext.ext⟩
theorem CY {P:Program}{f:Nat}{fn:Func}{c:Code}{T:Nat→Option TI}{Q:Nat→Option Nat}(bT:TabOK P T Q)(hf:P.funcs[f]? =some fn)(hb:fn.body=some c)(hn:vR P f){args:List PV}{h0 h1:List Chunk}{r:PV}(hl:args.length≤fn.ntmps)
 (hle:h0.length≤h1.length) (BR:ai h0.length args=true) (hbh:az h0.length h0=true) (hp:uh P fn.ntmps h0.length c (yA P h0.length T fn.results.toList r h1) (qH args 0) h0):MSpec P f args h0 r h1:=by
 refine⟨hn,hle,BR,hbh,fun X hXP hXn re w cx vs hc Ax=>?_⟩;subst hXP;have Sn:vs.length=args.length:=Ax.1.symm;have mY:jW {X with n:=fn.ntmps} (bG (qH args 0) h0) {tmps:=vs.toArray++Y9 (fn.ntmps - vs.toArray.size) undef,defers:=[]} w:=
  ⟨cx,by simp;omega,rfl,hc.ext,hc.inv,hc.fresh,hc.mu,hc.new,hc.apart,fun t=>CW Ax t,hc.chunk,hc.lent⟩
 refine calls_of_wp hf hb (wp_mono (hp {X with n:=fn.ntmps} rfl rfl re _ _ mY) fun ex a w' hq=>?_);obtain⟨e,h,⟨hx,ps,fm,V6⟩,hr⟩:=hq;obtain⟨c2,yf⟩:=hr;obtain⟨v,b9,aY⟩:=G6 (X:={X with n:=fn.ntmps}) bT yf fm;have hr3:jW {X with n:=1} (bG [(0,yz ps)] h) {tmps:=#[v],defers:=[]} w':=by
  refine⟨c2,rfl,rfl,yf.ext,yf.inv,yf.fresh,yf.mu,yf.new,yf.apart,fun t=>?_,yf.chunk,yf.lent⟩;simp only[bG,eG];by_cases ht:t=0
  ·subst ht;rw[if_pos rfl];exact aY
  ·rw[if_neg ht];exact .any _
 obtain⟨c3,RO⟩:=V6 {X with n:=1} rfl rfl re _ _ hr3;have hv3:RepP c3 w' r v:=RO.env 0;have bZ:RealC X (bG [] h1) IA w' c3:=⟨hXn.symm,rfl,RO.ext,RO.inv,RO.fresh,RO.mu,RO.new,RO.apart,fun t=> .any _,RO.chunk,RO.lent⟩;rcases hx with rfl|rfl
 ·exact⟨yf.defers,v,b9,v,c3,rfl,hv3,bZ⟩
 ·exact⟨yf.defers,v,b9,v,c3,rfl,hv3,bZ⟩
def yB:Nat→Option TI
 |3=>some {agg:=false,size:=1,bytes:=8,zero:=[.int .i64 0],fields:=[],elem:=none,int:=some .i64,kind:=0,mp:=none}
 |4=>some {agg:=false,size:=1,bytes:=1,zero:=[.bool false],fields:=[],elem:=none,int:=none,kind:=1,mp:=none}
 |37=>some {agg:=false,size:=1,bytes:=8,zero:=[.int .i64 0],fields:=[],elem:=none,int:=some .i64,kind:=0,mp:=none}
 |23=>some {agg:=true,size:=2,bytes:=16,zero:=[.int .i64 0,.int .i64 0],fields:=[(0,1),(1,1)],elem:=none,int:=none,kind:=0,mp:=none}
 |149=>some {agg:=true,size:=3,bytes:=40,zero:=[.int .i64 0,.int .i64 0,.slice none 0 0],fields:=[(0,2),(2,1)],elem:=none,int:=none,kind:=0,mp:=none}
 |25=>some {agg:=true,size:=4,bytes:=32,zero:=[.int .i64 0,.int .i64 0,.int .i64 0,.int .i64 0],fields:=[(0,1),(1,1),(2,1),(3,1)],elem:=none,int:=none,kind:=0,mp:=none}
 |96=>some {agg:=true,size:=5,bytes:=40,zero:=[.int .i64 0,.int .i64 0,.int .i64 0,.int .i64 0,.int .i64 0],fields:=[(0,2),(2,1),(3,1),(4,1)],elem:=none,int:=none,kind:=0,mp:=none}
 |83=>some {agg:=true,size:=9,bytes:=88,zero:=[.int .i64 0,.int .i64 0,.int .i64 0,.int .i64 0,.int .i64 0,.int .i64 0,.int .i64 0,.int .i64 0,.slice none 0 0],fields:=[(0,1),(1,1),(2,2),(4,4),(8,1)],elem:=none,int:=none,kind:=0,mp:=none}
 |30=>some {agg:=true,size:=2,bytes:=32,zero:=[.int .i64 0,.slice none 0 0],fields:=[(0,1),(1,1)],elem:=none,int:=none,kind:=0,mp:=none}
 |110=>some {agg:=true,size:=2,bytes:=32,zero:=[.int .i64 0,.slice none 0 0],fields:=[(0,1),(1,1)],elem:=none,int:=none,kind:=0,mp:=none}
 |107=>some {agg:=true,size:=4,bytes:=48,zero:=[.int .i64 0,.int .i64 0,.int .i64 0,.slice none 0 0],fields:=[(0,1),(1,2),(3,1)],elem:=none,int:=none,kind:=0,mp:=none}
 |100=>some {agg:=true,size:=3,bytes:=24,zero:=[.int .i64 0,.int .i64 0,.int .i64 0],fields:=[(0,2),(2,1)],elem:=none,int:=none,kind:=0,mp:=none}
 |88=>some {agg:=true,size:=3,bytes:=56,zero:=[.int .i64 0,.slice none 0 0,.slice none 0 0],fields:=[(0,1),(1,1),(2,1)],elem:=none,int:=none,kind:=0,mp:=none}
 |91=>some {agg:=true,size:=2,bytes:=16,zero:=[.int .i64 0,.int .i64 0],fields:=[(0,1),(1,1)],elem:=none,int:=none,kind:=0,mp:=none}
 |34=>some {agg:=true,size:=2,bytes:=48,zero:=[.slice none 0 0,.slice none 0 0],fields:=[(0,1),(1,1)],elem:=none,int:=none,kind:=0,mp:=none}
 |36=>some {agg:=true,size:=4,bytes:=80,zero:=[.int .i64 0,.slice none 0 0,.slice none 0 0,.slice none 0 0],fields:=[(0,2),(2,2)],elem:=none,int:=none,kind:=0,mp:=none}
 |27=>some {agg:=true,size:=10,bytes:=80,zero:=[.int .i64 0,.int .i64 0,.int .i64 0,.int .i64 0,.int .i64 0,.int .i64 0,.int .i64 0,.int .i64 0,.int .i64 0,.int .i64 0],fields:=[(0,1),(1,1),(2,1),(3,1),(4,2),(6,4)],elem:=none,int:=none,kind:=0,mp:=none}
 |47=>some {agg:=true,size:=4,bytes:=32,zero:=[.int .i64 0,.int .i64 0,.int .i64 0,.int .i64 0],fields:=[(0,1),(1,2),(3,1)],elem:=none,int:=none,kind:=0,mp:=none}
 |108=>some {agg:=false,size:=1,bytes:=24,zero:=[.slice none 0 0],fields:=[],elem:=some 3,int:=none,kind:=0,mp:=none}
 |212=>some {agg:=false,size:=1,bytes:=24,zero:=[.slice none 0 0],fields:=[],elem:=some 4,int:=none,kind:=0,mp:=none}
 |147=>some {agg:=false,size:=1,bytes:=24,zero:=[.slice none 0 0],fields:=[],elem:=some 23,int:=none,kind:=0,mp:=none}
 |81=>some {agg:=false,size:=1,bytes:=24,zero:=[.slice none 0 0],fields:=[],elem:=some 96,int:=none,kind:=0,mp:=none}
 |28=>some {agg:=false,size:=1,bytes:=24,zero:=[.slice none 0 0],fields:=[],elem:=some 83,int:=none,kind:=0,mp:=none}
 |105=>some {agg:=false,size:=1,bytes:=24,zero:=[.slice none 0 0],fields:=[],elem:=some 110,int:=none,kind:=0,mp:=none}
 |86=>some {agg:=false,size:=1,bytes:=24,zero:=[.slice none 0 0],fields:=[],elem:=some 107,int:=none,kind:=0,mp:=none}
 |85=>some {agg:=false,size:=1,bytes:=24,zero:=[.slice none 0 0],fields:=[],elem:=some 100,int:=none,kind:=0,mp:=none}
 |31=>some {agg:=false,size:=1,bytes:=24,zero:=[.slice none 0 0],fields:=[],elem:=some 88,int:=none,kind:=0,mp:=none}
 |32=>some {agg:=false,size:=1,bytes:=24,zero:=[.slice none 0 0],fields:=[],elem:=some 91,int:=none,kind:=0,mp:=none}
 |40=>some {agg:=false,size:=1,bytes:=24,zero:=[.slice none 0 0],fields:=[],elem:=some 27,int:=none,kind:=0,mp:=none}
 |43=>some {agg:=false,size:=1,bytes:=24,zero:=[.slice none 0 0],fields:=[],elem:=some 47,int:=none,kind:=0,mp:=none}
 |137=>some {agg:=true,size:=3,bytes:=24,zero:=[.int .i64 0,.int .i64 0,.int .i64 0],fields:=[(0,2),(2,1)],elem:=none,int:=none,kind:=0,mp:=none}
 |128=>some {agg:=true,size:=18,bytes:=192,zero:=[.int .i64 0,.slice none 0 0,.slice none 0 0,.slice none 0 0,.int .i64 0,.int .i64 0,.int .i64 0,.int .i64 0,.int .i64 0,.int .i64 0,.int .i64 0,.int .i64 0,.int .i64 0,.int .i64 0,.int .i64 0,.int .i64 0,.int .i64 0,.int .i64 0],fields:=[(0,4),(4,10),(14,4)],elem:=none,int:=none,kind:=0,mp:=none}
 |5=>some {agg:=false,size:=1,bytes:=1,zero:=[.int .u8 0],fields:=[],elem:=none,int:=some .u8,kind:=0,mp:=none}
 |9=>some {agg:=false,size:=1,bytes:=16,zero:=[.string ByteArray.empty],fields:=[],elem:=none,int:=none,kind:=2,mp:=none}
 |21=>some {agg:=false,size:=1,bytes:=4,zero:=[.int .i32 0],fields:=[],elem:=none,int:=some .i32,kind:=0,mp:=none}
 |74=>some {agg:=false,size:=1,bytes:=24,zero:=[.slice none 0 0],fields:=[],elem:=some 5,int:=none,kind:=0,mp:=none}
 |78=>some {agg:=true,size:=2,bytes:=32,zero:=[.pointer none,.slice none 0 0],fields:=[(0,2)],elem:=none,int:=none,kind:=0,mp:=none}
 |111=>some {agg:=false,size:=1,bytes:=24,zero:=[.slice none 0 0],fields:=[],elem:=some 9,int:=none,kind:=0,mp:=none}
 |114=>some {agg:=true,size:=9,bytes:=72,zero:=[.int .i64 0,.int .i64 0,.int .i64 0,.int .i64 0,.int .i64 0,.int .i64 0,.int .i64 0,.int .i64 0,.int .i64 0],fields:=[],elem:=none,int:=none,kind:=0,mp:=none,arr:=some (9,3)}
 |115=>some {agg:=false,size:=1,bytes:=8,zero:=[.int .u64 0],fields:=[],elem:=none,int:=some .u64,kind:=0,mp:=none}
 |123=>some {agg:=false,size:=1,bytes:=8,zero:=[.pointer none],fields:=[],elem:=none,int:=none,kind:=3,mp:=none}
 |125=>some {agg:=false,size:=1,bytes:=8,zero:=[.pointer none],fields:=[],elem:=none,int:=none,kind:=3,mp:=none}
 |129=>some {agg:=false,size:=1,bytes:=4,zero:=[.int .u32 0],fields:=[],elem:=none,int:=some .u32,kind:=0,mp:=none}
 |141=>some {agg:=false,size:=1,bytes:=16,zero:=[.nilIface],fields:=[],elem:=none,int:=none,kind:=5,mp:=none}
 |178=>some {agg:=false,size:=1,bytes:=8,zero:=[.pointer none],fields:=[],elem:=none,int:=none,kind:=3,mp:=none}
 |183=>some {agg:=false,size:=1,bytes:=8,zero:=[.pointer none],fields:=[],elem:=none,int:=none,kind:=3,mp:=none}
 |185=>some {agg:=false,size:=1,bytes:=8,zero:=[.pointer none],fields:=[],elem:=none,int:=none,kind:=3,mp:=none}
 |194=>some {agg:=false,size:=1,bytes:=8,zero:=[.pointer none],fields:=[],elem:=none,int:=none,kind:=3,mp:=none}
 |256=>some {agg:=false,size:=1,bytes:=8,zero:=[.pointer none],fields:=[],elem:=none,int:=none,kind:=3,mp:=none}
 |261=>some {agg:=false,size:=1,bytes:=8,zero:=[.pointer none],fields:=[],elem:=none,int:=none,kind:=3,mp:=none}
 |317=>some {agg:=false,size:=1,bytes:=8,zero:=[.int .u64 0],fields:=[],elem:=none,int:=some .u64,kind:=0,mp:=none}
 |274=>some {agg:=false,size:=1,bytes:=8,zero:=[.map none],fields:=[],elem:=none,int:=none,kind:=4,mp:=some (1,false)}
 |275=>some {agg:=false,size:=1,bytes:=8,zero:=[.map none],fields:=[],elem:=none,int:=none,kind:=4,mp:=some (1,false)}
 |134=>some {agg:=false,size:=1,bytes:=8,zero:=[.map none],fields:=[],elem:=none,int:=none,kind:=4,mp:=some (3,true)}
 |_=>none
theorem PI:∀t ti,yB t=some ti→aJ prog t=some ti:=by
 intro t ti h;unfold yB at h;split at h<;>first|(cases h;kernel_rfl)|cases h
theorem IN:Ch prog 23 2:=by
 intro w xs ys x y op hx hy l9;match xs,ys,hx,hy with
 |[a0,a1],[b0,b1],_,_=>
  clear hx hy;rcases l9 with rfl|rfl<;>(simp only[Xm,Xx];go_simp)<;>by_cases h0:a0=b0<;>by_cases h1:a1=b1<;>simp[bne,h0,h1]
theorem PJ:Ch prog 25 4:=by
 intro w xs ys x y op hx hy l9;match xs,ys,hx,hy with
 |[a0,a1,a2,a3],[b0,b1,b2,b3],_,_=>
  clear hx hy;rcases l9 with rfl|rfl<;>(simp only[Xm,Xx];go_simp)<;>by_cases h0:a0=b0<;>by_cases h1:a1=b1<;>by_cases h2:a2=b2<;>by_cases h3:a3=b3<;>simp[bne,h0,h1,h2,h3]
theorem LV:Ch prog 96 5:=by
 intro w xs ys x y op hx hy l9;match xs,ys,hx,hy with
 |[a0,a1,a2,a3,a4],[b0,b1,b2,b3,b4],_,_=>
  clear hx hy;rcases l9 with rfl|rfl<;>(simp only[Xm,Xx];go_simp)<;>by_cases h0:a0=b0<;>by_cases h1:a1=b1<;>by_cases h2:a2=b2<;>by_cases h3:a3=b3<;>by_cases h4:a4=b4<;>simp[bne,h0,h1,h2,h3,h4]
theorem LW:Ch prog 100 3:=by
 intro w xs ys x y op hx hy l9;match xs,ys,hx,hy with
 |[a0,a1,a2],[b0,b1,b2],_,_=>
  clear hx hy;rcases l9 with rfl|rfl<;>(simp only[Xm,Xx];go_simp)<;>by_cases h0:a0=b0<;>by_cases h1:a1=b1<;>by_cases h2:a2=b2<;>simp[bne,h0,h1,h2]
theorem PK:Ch prog 91 2:=by
 intro w xs ys x y op hx hy l9;match xs,ys,hx,hy with
 |[a0,a1],[b0,b1],_,_=>
  clear hx hy;rcases l9 with rfl|rfl<;>(simp only[Xm,Xx];go_simp)<;>by_cases h0:a0=b0<;>by_cases h1:a1=b1<;>simp[bne,h0,h1]
theorem IP:Ch prog 47 4:=by
 intro w xs ys x y op hx hy l9;match xs,ys,hx,hy with
 |[a0,a1,a2,a3],[b0,b1,b2,b3],_,_=>
  clear hx hy;rcases l9 with rfl|rfl<;>(simp only[Xm,Xx];go_simp)<;>by_cases h0:a0=b0<;>by_cases h1:a1=b1<;>by_cases h2:a2=b2<;>by_cases h3:a3=b3<;>simp[bne,h0,h1,h2,h3]
def LX:Nat→Option Nat
 |23=>some 2
 |25=>some 4
 |96=>some 5
 |100=>some 3
 |91=>some 2
 |47=>some 4
 |_=>none
theorem PL:MapOK prog 274 1 false:=zt underlying274 underlying3 (by kernel_rfl)
theorem PM:MapOK prog 275 1 false:=zt underlying275 underlying3 (by kernel_rfl)
theorem PN:KeyOK prog 137 3 true:=by
 refine Lu (by kernel_rfl) (fun em w xs hx=>?_) (fun w xs ys hx hy=>?_)
 ·match xs,hx with
  |[a0,a1,a2],_=>
   clear hx;simp only[iH,if_true,Xm,Xx];have key:∀n,(Instr.checkKey em (n+1+1+1) 137 (.agg #[.int .i64 a0,.int .i64 a1,.int .i64 a2])).run prog w= .ok () w:=by
    intro n;simp[Instr.checkKey,run_underlying underlying3,run_underlying underlying23,run_underlying underlying137,part,isAgg,go_sem]
   exact key 9997
 ·match xs,ys,hx,hy with
  |[a0,a1,a2],[b0,b1,b2],_,_=>
   clear hx hy;simp only[iH,if_true,Xm,Xx];show (Op.equalIn 10000 137 _ _).run _ _=_;go_simp
   by_cases h0:a0=b0<;>by_cases h1:a1=b1<;>by_cases h2:a2=b2<;>simp[h0,h1,h2]
theorem PO:MapOK prog 134 3 true:=by
 obtain⟨i,hi,hz⟩:=XG.1 (show (prog.info? 3).map (·.zero)=some (some (.int .i64 0)) by kernel_rfl);exact⟨137,3,i,underlying134,hi,hz,PN⟩
theorem PP:∀t ti n s,yB t=some ti→ti.mp=some (n,s)→MapOK prog t n s:=by
 intro t ti n s h hm;unfold yB at h;split at h
 ·cases h;cases hm
 ·cases h;cases hm
 ·cases h;cases hm
 ·cases h;cases hm
 ·cases h;cases hm
 ·cases h;cases hm
 ·cases h;cases hm
 ·cases h;cases hm
 ·cases h;cases hm
 ·cases h;cases hm
 ·cases h;cases hm
 ·cases h;cases hm
 ·cases h;cases hm
 ·cases h;cases hm
 ·cases h;cases hm
 ·cases h;cases hm
 ·cases h;cases hm
 ·cases h;cases hm
 ·cases h;cases hm
 ·cases h;cases hm
 ·cases h;cases hm
 ·cases h;cases hm
 ·cases h;cases hm
 ·cases h;cases hm
 ·cases h;cases hm
 ·cases h;cases hm
 ·cases h;cases hm
 ·cases h;cases hm
 ·cases h;cases hm
 ·cases h;cases hm
 ·cases h;cases hm
 ·cases h;cases hm
 ·cases h;cases hm
 ·cases h;cases hm
 ·cases h;cases hm
 ·cases h;cases hm
 ·cases h;cases hm
 ·cases h;cases hm
 ·cases h;cases hm
 ·cases h;cases hm
 ·cases h;cases hm
 ·cases h;cases hm
 ·cases h;cases hm
 ·cases h;cases hm
 ·cases h;cases hm
 ·cases h;cases hm
 ·cases h;cases hm
 ·cases h;cases hm
 ·cases h;cases hm
 ·cases h;cases hm
 ·cases h;cases hm
 ·cases h;cases hm;exact PL
 ·cases h;cases hm;exact PM
 ·cases h;cases hm;exact PO
 ·cases h
theorem af:TabOK prog yB LX:=by
 refine⟨PI,fun t n h=>?_,PP⟩;unfold LX at h;split at h
 ·cases h;exact IN
 ·cases h;exact PJ
 ·cases h;exact LV
 ·cases h;exact LW
 ·cases h;exact PK
 ·cases h;exact IP
 ·cases h
theorem bU {P:Program}{f:Nat}{fn:Func}{c:Code}(hf:P.funcs[f]? =some fn)(V7:(fn.name== "runtime.NumGoroutine")=false)(hb:fn.body=some c):vR P f:=by
 intro args w;simp[callFunc,hf,hb];simpa using V7
theorem U9:(some true==some true)=true:=rfl
theorem Va:(some false==some false)=true:=rfl
theorem Vb:(some true==some false)=false:=rfl
theorem Vc:(some false==some true)=false:=rfl
theorem Vd:((none:Option Bool)==some true)=false:=rfl
theorem Ve:((none:Option Bool)==some false)=false:=rfl
section
variable {P:Program}{n m:Nat}{T:Nat→Option TI}{Q:Nat→Option Nat}{K:Exit→cm→List Chunk→Prop}{e:cm}{h:List Chunk}
def wn (C:cm→List Chunk→Prop)(K:Exit→cm→List Chunk→Prop):Exit→cm→List Chunk→Prop
 | .normal,e,h=>C e h
 |x,e,h=>K x e h
theorem G7 {a b:Code}(hp:∀C:cm→List Chunk→Prop,(∀e h,uh P n m b K e h→C e h)→uh P n m a (wn C K) e h):uh P n m (.seq a b) K e h:=by
 intro X hX hn re ac w hr;have:=hp (fun e h=>uh P n m b K e h) (fun _ _ h=>h) X hX hn re ac w hr;refine wp_seq (wp_mono this fun ex a' w' hq=>?_);obtain⟨e',h',hk,hr'⟩:=hq;cases ex with
 |normal=>exact hk X hX hn re a' w' hr'
 |_=>exact⟨e',h',hk,hr'⟩
def yC (id:Nat)(C:cm→List Chunk→Prop)(K:Exit→cm→List Chunk→Prop):Exit→cm→List Chunk→Prop
 | .normal,e,h=>C e h
 | .exit i,e,h=>if i=id then C e h else K (.exit i) e h
 |x,e,h=>K x e h
theorem IQ {id:Nat}{c:Code}(hp:∀C:cm→List Chunk→Prop,(∀e h,K .normal e h→C e h)→uh P n m c (yC id C K) e h):uh P n m (.block id c) K e h:=by
 intro X hX hn re ac w hr;have:=hp (fun e h=>K .normal e h) (fun _ _ h=>h) X hX hn re ac w hr;refine wp_block (wp_mono this fun ex a' w' hq=>?_);obtain⟨e',h',hk,hr'⟩:=hq;cases ex with
 |exit i=>
  simp only[Exit.inBlock,yC]at*;by_cases hi:i=id
  ·rw[if_pos hi]at hk ⊢;exact⟨e',h',hk,hr'⟩
  ·rw[if_neg hi]at hk ⊢;exact⟨e',h',hk,hr'⟩
 |_=>exact⟨e',h',hk,hr'⟩
def SX (P:Program)(g:Option Bool)(r:SR)(dst:Option Nat)(e:cm)(h:List Chunk)(sm:List (List Nat × List Nat))(R:cm→List Chunk→List (List Nat × List Nat)→Prop):Prop:=
 match g with
 |some true=>AZ P r dst e h sm R
 |some false=>R (fE e dst (.d (.v undef))) h (([],[])::sm)
 |none=>False
section
variable {sm:List (List Nat × List Nat)}{dst:Option Nat}{R:cm→List Chunk→List (List Nat × List Nat)→Prop}
theorem SY {g:Nat}{ps:List PV}{ds:List D}{r:D}(hv:U8 (aw h) ps=some ds)(hp:ae P g ds r)(hf:SW (aw h) ps=[]∨r.flat=true)(hR:R (fE e dst (.d r)) h (([],SW (aw h) ps)::sm)):AZ P (.call g ps) dst e h sm R:=
 .inl ⟨ds,r,hv,hp,hf,hR⟩
theorem SZ (ls:List Nat){g:Nat}{ps args:List PV}{h0 h1:List Chunk}{r:PV}(hM:MSpec P g args h0 r h1)(kg:ps=ig (eh ls h.length) args)(hl:ls.length=h0.length)(lw:ls.Nodup)(hlt:∀k∈ls,k < h.length)(iE:aZ (aw h) (eh ls h.length) 0 h0)
 (hR:R (fE e dst (ren (eh ls h.length) r)) (gJ (eh ls h.length) 0 h1 h) ((qG ls h.length h1.length,qG ls h.length h1.length)::sm)):AZ P (.call g ps) dst e h sm R:=
 .inr (.inl ⟨ls,args,h0,r,h1,hM,kg,hl,lw,hlt,iE,hR⟩)
end
theorem IR {draw:Bool}{ops:Array Oper}{ds:List (Option Nat)}{o:Oper}{l:List Oper}{sm:List (List Nat × List Nat)}{K:cm→List Chunk→Prop}(hd:LU n o=true)
 (hp:∀R:cm→List Chunk→List (List Nat × List Nat)→Prop,(∀e h sm,uN P n T Q draw ops ds l e h sm K→R e h sm)→SX P (tb ds e o) (O6 T Q e h o) o.dst e h sm R):uN P n T Q draw ops ds (o::l) e h sm K:=by
 have hp:=hp (uN P n T Q draw ops ds l · · · K) fun _ _ _ h=>h;unfold uN;unfold SX at hp;split at hp
 ·rename_i g hg;rw[hg];exact⟨hd,fun _=>hp,fun h=>by cases h⟩
 ·rename_i g hg;rw[hg];exact⟨hd,(fun h=>(by cases h)),fun _=>hp⟩
 ·exact hp.elim
theorem LY {c:Operand}{a b:Code}{t:Bool}(hc:du e c= .d (.v (.bool t)))(h1:t=true→uh P n m a K e h)(h2:t=false→uh P n m b K e h):uh P n m (.cond c a b) K e h:=by
 intro X hX hn re ac w hr;have hv:ac.eval c= .bool t:=by
  obtain⟨cx,ji⟩:=hr;exact cY ji ((ax e h c).trans hc)
 refine wp_cond hv ?_;cases t with
 |true=>exact h1 rfl X hX hn re ac w hr
 |false=>exact h2 rfl X hX hn re ac w hr
theorem LZ (h1:K .normal e h):uh P n m .skip K e h:=fun X _ _ _ a w hr=>wp_skip ⟨e,h,h1,hr⟩
theorem Ma {id:Nat}(h1:K (.exit id) e h):uh P n m (.exit id) K e h:=fun X _ _ _ a w hr=>wp_exit ⟨e,h,h1,hr⟩
theorem PQ (h1:K .ret e h):uh P n m .ret K e h:=fun X _ _ _ a w hr=>wp_ret ⟨e,h,h1,hr⟩
theorem IS {l:Nat}(h1:K .normal e h):uh P n m (.label l) K e h:=fun X _ _ _ a w hr=>wp_label ⟨e,h,h1,hr⟩
theorem CZ {c:Code}(I:Nat→cm→List Chunk→Prop)(mm:Nat)(e1:cm)(h1:List Chunk)(h0:I mm e1 h1)(hw:eo P n m e h e1 h1)
 (hr:∀k e h,I k e h→∀C:cm→List Chunk→Prop,(∀k' e1 h1 e h,k' < k→I k' e1 h1→eo P n m e h e1 h1→C e h)→uh P n m c (wn C K) e h):uh P n m (.loop c) K e h:=by
 intro X hX hn re a w mY;refine wp_loop_ghost (fun k a w=>∃e h,I k e h∧jW X (bG e h) a w) mm ⟨e1,h1,h0,hw X hX hn re a w mY⟩ ?_;rintro k a w ⟨e,h,hI,mY⟩;have:=hr k e h hI (fun e' h'=>∃k' e1 h1,k' < k∧I k' e1 h1∧eo P n m e' h' e1 h1) (fun k' e1 h1 e h a b c=>⟨k',e1,h1,a,b,c⟩) X hX hn re a w mY;refine wp_mono this fun ex a' w' hq=>?_;obtain⟨e',h',hk,hr'⟩:=hq;cases ex with
 |normal=>
  obtain⟨k',e2,h2,hlt,rj,cI⟩:=hk;exact⟨k',hlt,e2,h2,rj,cI X hX hn re a' w' hr'⟩
 |_=>exact⟨e',h',hk,hr'⟩
end
def rg:Nat→List Nat
 |0=>[]
 |n+1=>n::rg n
theorem tg {P:Program}{n m:Nat}{e e':cm}{h:List Chunk}(hl:∀t,eG e' t= .any∨eG e' t=eG e t):eo P n m e h e' h:=by
 intro X _ _ _ a w hr;obtain⟨c,hc⟩:=hr;refine⟨c,hc.size,hc.defers,hc.ext,hc.inv,hc.fresh,hc.mu,hc.new,hc.apart,fun t=>?_,hc.chunk,hc.lent⟩;show RepP c w (eG e' t) _;rcases hl t with h|h
 ·rw[h];exact .any _
 ·rw[h];exact hc.env t
theorem al:prog.follows .mixedOrders=true:=by kernel_rfl
theorem eo.refl (P:Program)(n m:Nat)(e:cm)(h:List Chunk):eo P n m e h e h:=fun _ _ _ _ _ _ h=>h
theorem kn (l:List (List D))(i:Nat):(ab l)[i]? =(l[i]?).map (·.map .d):=by simp[ab]
theorem aC (l:List (List D)):(ab l).length=l.length:=by simp[ab]
theorem aW (a b:List (List D)):ab a++ab b=ab (a++b):=by simp[ab]
theorem py {h:List Chunk}{k:Nat}(hk:aw h k≠ .none):k < h.length:=by
 induction h generalizing k with
 |nil=>simp[aw]at hk
 |cons c l ih=>
  cases k with
  |zero=>simp
  |succ k=>simpa using ih (by simpa[aw]using hk)
def Cx.cut (c:Cx)(n:Nat):Cx:={M:=c.M,bl:=fun k=>if k < n then c.bl k else none,ov:=fun k g=>if k < n then c.ov k g else none}
theorem RepP.cut {c:Cx}{w:World}{n:Nat}{p:PV}{v:Value}(h:RepP c w p v):aj n p=true→RepP (c.cut n) w p v:=by
 induction h with
 |d x v h=>intro _;exact .d x v h
 |any v=>intro _;exact .any v
 |ptr k off b h=>intro hb;simp only[aj,decide_eq_true_eq]at hb;exact .ptr k off b (by show (if k < n then c.bl k else none)=_;rw[if_pos hb];exact h)
 |own k g v h h1=>intro hb;simp only[aj,decide_eq_true_eq]at hb;exact .own k g v (by show (if k < n then c.ov k g else none)=_;rw[if_pos hb];exact h) h1
 |rp k g sz i j b m cap h=>intro hb;simp only[aj,decide_eq_true_eq]at hb;exact .rp k g sz i j b m cap (by show (if k < n then c.ov k g else none)=_;rw[if_pos hb];exact h)
 |osl k g sz a m b o N cap h hn hc h2=>intro hb;simp only[aj,decide_eq_true_eq]at hb;exact .osl k g sz a m b o N cap (by show (if k < n then c.ov k g else none)=_;rw[if_pos hb];exact h) hn hc h2
 |mref k b h=>intro hb;simp only[aj,decide_eq_true_eq]at hb;exact .mref k b (by show (if k < n then c.bl k else none)=_;rw[if_pos hb];exact h)
 |agg caps vs hl h1 aY ih=>
  intro hb;simp only[aj]at hb;exact .agg caps vs hl h1 fun j d x hj hx=>ih j d x hj hx (iU hb d (Xl hj))
 |tup caps vs hl aY ih=>
  intro hb;simp only[aj]at hb;exact .tup caps vs hl fun j d x hj hx=>ih j d x hj hx (iU hb d (Xl hj))
 |clo g caps vs hl aY ih=>
  intro hb;simp only[aj]at hb;exact .clo g caps vs hl fun j d x hj hx=>ih j d x hj hx (iU hb d (Xl hj))
theorem C6:∀{e e':cm},Iz e e'→∀t,eG e' t= .any∨eG e' t=eG e t
 |_,[],_,_=> .inl rfl
 |e,(t',p)::l,⟨h1,h2⟩,t=>by
  simp only[eG];by_cases ht:t=t'
  ·rw[if_pos ht,ht];exact .inr h1.symm
  ·rw[if_neg ht];exact C6 h2 t
theorem pz:∀(h x:List Chunk) (k:Nat),k < h.length→aw (h++x) k=aw h k
 |c::l,x,0,_=>rfl
 |c::l,x,k+1,hk=>by simpa[aw]using pz l x k (by simpa using hk)
theorem nh:∀(h:List Chunk) (k:Nat),h.length≤k→aw h k= .none
 |[],_,_=>rfl
 |c::l,0,h=>by simp at h
 |c::l,k+1,h=>by simpa[aw]using nh l k (by simpa using h)
theorem dQ {P:Program}{n m:Nat}{e e':cm}{h h':List Chunk}(x:List Chunk)(hm:m≤h'.length)(hh:h=h'++x)(he:Iz e e')(hb:dY h'.length e'=true)(hbh:az h'.length h'=true):eo P n m e h e' h':=by
 intro X _ _ re a w hr;obtain⟨c,hc⟩:=hr;subst hh;have hf:=hc.freeze ((X3 x.length).map (h'.length+ ·));have ma:∀k,k∈(X3 x.length).map (h'.length+ ·)↔h'.length≤k∧k < h'.length+x.length:=by
  intro k;simp only[XH,YP];constructor
  ·rintro⟨j,hj,rfl⟩;omega
  ·intro hk;exact⟨k - h'.length,by omega,by omega⟩
 have y8:∀k,k < h'.length→cz (((X3 x.length).map (h'.length+ ·)).map fun k=>(k,.gone)) (aw (h'++x)) k=aw h' k:=by
  intro k hk;rw[mv,if_neg (fun h=>by have:=(ma k).1 h;omega),pz h' x k hk]
 have Ia:∀k,h'.length≤k→∀c:Cx,c.block k (cz (((X3 x.length).map (h'.length+ ·)).map fun k=>(k,.gone)) (aw (h'++x)) k)=none:=by
  intro k hk c;rw[mv];split
  ·rfl
  ·rename_i hn;have:h'.length+x.length≤k:=by
    rcases XO k (h'.length+x.length)with h1|h1
    ·exact absurd ((ma k).2 ⟨hk,h1⟩) hn
    ·exact h1
   rw[nh _ k (by simpa using this)];rfl
 generalize ee:({c with M:=lF c (bG e (h'++x)).heap ((X3 x.length).map (h'.length+ ·))}:Cx)=cc at hf;have cV:∀k,(cc.cut h'.length).block k (aw h' k)=if k < h'.length then cc.block k (aw h' k)else none:=by
  intro k;by_cases hk:k < h'.length
  ·rw[if_pos hk];cases aw h' k<;>simp[Cx.block,Cx.cut,hk]
  ·rw[if_neg hk,nh h' k (by omega)];rfl
 have hold:∀k b,(cc.cut h'.length).block k (aw h' k)=some b→cc.block k (cz (((X3 x.length).map (h'.length+ ·)).map fun k=>(k,.gone)) (aw (h'++x)) k)=some b:=by
  intro k b hb;rw[cV]at hb;split at hb
  ·rename_i hk;rw[y8 k hk];exact hb
  ·cases hb
 refine⟨cc.cut h'.length,hf.size,hf.defers,hf.ext,hf.inv,hf.fresh,fun b=>?_,fun k b hb=>hf.new k b (hold k b hb),fun k k' b hb hb'=>hf.apart k k' b (hold k b hb) (hold k' b hb'),fun t=>?_,fun k=>?_,fun k hk=>?_⟩
 ·show cc.M b↔_;rw[hf.mu b];constructor
  ·rintro (h0|⟨k,hk⟩)
   ·exact .inl h0
   ·refine .inr ⟨k,?_⟩;show (cc.cut h'.length).block k (aw h' k)=_;rw[cV];rcases XO k h'.length with h1|h1
    ·rw[if_pos h1];have:=y8 k h1;simp only[bG]at hk;rw[this]at hk;exact hk
    ·simp only[bG]at hk;rw[Ia k h1]at hk;cases hk
  ·rintro (h0|⟨k,hk⟩)
   ·exact .inl h0
   ·exact .inr ⟨k,hold k b hk⟩
 ·show RepP (cc.cut h'.length) w (eG e' t) _;rcases C6 he t with h0|h0
  ·rw[h0];exact .any _
  ·have h1:=vV hb t;rw[h0]at h1 ⊢;exact(hf.env t).cut h1
 ·show ChunkOK (cc.cut h'.length) w k (aw h' k);rcases XO k h'.length with h1|h1
  ·have bD:=hf.chunk k;simp only[bG]at bD;rw[y8 k h1]at bD;have Ib:=sY hbh k;have rc:(cc.cut h'.length).bl k=cc.bl k:=by show (if k < h'.length then cc.bl k else none)=_;rw[if_pos h1]
   have ed:∀g,(cc.cut h'.length).ov k g=cc.ov k g:=fun g=>by show (if k < h'.length then cc.ov k g else none)=_;rw[if_pos h1]
   cases RG:aw h' k with
   |none=>rw[RG]at bD;cases bD with|none q1 q2=>exact .none (by rw[rc];exact q1) (fun g=>by rw[ed];exact q2 g)
   |gone=>exact .gone
   |box T cells=>
    rw[RG]at bD Ib;cases bD with
    |box _ _ b vs q1 q2 q3 q4=>
     exact .box T cells b vs (by rw[rc];exact q1) q2 ⟨q3.1,fun j d v hj hv=>(q3.2 j d v hj hv).cut (iU (by simpa[aH]using Ib) d (Xl hj))⟩ q4
   |mp nB sB ents=>
    rw[RG]at bD;cases bD with
    |mp _ _ _ b q1 q2 q3=>exact .mp nB sB ents b (by rw[rc];exact q1) q2 q3
   |it nB sB ents seen=>
    rw[RG]at bD;cases bD with
    |it _ _ _ _ b bm q1 q2 q3 q4=>exact .it nB sB ents seen b bm (by rw[rc];exact q1) q2 q3 q4
   |row E sz g rows=>
    rw[RG]at bD Ib;cases bD with
    |row _ _ _ _ v xs q1 q2 q3 q4 q5 q6=>exact .row E sz g rows v xs (by rw[ed];exact q1) q2 ⟨q3.1,fun j d v hj hv=>(q3.2 j d v hj hv).cut (iU (uf (by simpa[aH]using Ib)) d (Xl hj))⟩ q4 q5 (fun g' hg=>by rw[ed];exact q6 g' hg)
  ·rw[nh h' k h1];refine .none ?_ fun g=>?_
   ·show (if k < h'.length then cc.bl k else none)=_;rw[if_neg (by omega)]
   ·show (if k < h'.length then cc.ov k g else none)=_;rw[if_neg (by omega)]
 ·have hk':k < h'.length:=by omega
  obtain⟨q1,q2⟩:=hf.lent k hk;refine⟨?_,fun g v hv=>?_⟩
  ·show (if k < h'.length then cc.bl k else none)=_;rw[if_pos hk'];exact q1
  ·show (if k < h'.length then cc.ov k g else none)=_;rw[if_pos hk'];exact q2 g v hv
theorem eo.trans {P:Program}{n m:Nat}{e e' e'':cm}{h h' h'':List Chunk}(h1:eo P n m e h e' h')(h2:eo P n m e' h' e'' h''):eo P n m e h e'' h'':=fun X hX hn hm a w hr=>h2 X hX hn hm a w (h1 X hX hn hm a w hr)
theorem jo (h:List Chunk)(c:Chunk)(k:Nat):aw (h++[c]) k=if k=h.length then c else aw h k:=by
 rcases Y4 k h.length with h1|h1|h1
 ·rw[pz h [c] k h1,if_neg (by omega)]
 ·subst h1;rw[if_pos rfl];induction h with
  |nil=>rfl
  |cons a l ih=>exact ih
 ·rw[if_neg (by omega),nh _ k (by simp;omega),nh h k (by omega)]
theorem dZ {P:Program}{n m:Nat}{e:cm}{h:List Chunk}(lz:m≤h.length)(t E sz:Nat)(ht:eG e t= .d (.v (.slice none 0 0))):eo P n m e h ((t,.own h.length 0)::e) (h++[.row E sz 0 []]):=by
 intro X _ _ re a w hr;obtain⟨c,hc⟩:=hr;obtain⟨c',q1,q2⟩:=hc.new_row (k:=h.length) (w':=w) (fD h) (by omega) E sz [] (.slice none 0 0) [] (Below.refl _ _) .nil (fun b hb=>by cases hb) ⟨rfl,fun j d x h=>by simp at h⟩ (by simp) (by simp);have hv:a.tmps.getD t undef= .slice none 0 0:=hc.bool ht;refine⟨c',q1.size,q1.defers,q1.ext,q1.inv,q1.fresh,?_,?_,?_,fun t'=>?_,?_,q1.lent⟩
 ·intro b;have:=q1.mu b;simp only[ry,bG]at this ⊢;simpa[jo]using this
 ·intro k b;have:=q1.new k b;simp only[ry,bG]at this ⊢;simpa[jo]using this
 ·intro k k' b;have:=q1.apart k k' b;simp only[ry,bG]at this ⊢;simpa[jo]using this
 ·simp only[bG,eG];by_cases h1:t'=t
  ·subst h1;rw[if_pos rfl,hv];exact q2
  ·rw[if_neg h1];exact q1.env t'
 ·intro k;have:=q1.chunk k;simp only[ry,bG]at this ⊢;simpa[jo]using this
theorem aL {P:Program}{n m:Nat}{e:cm}{h:List Chunk}(lz:m≤h.length)(kb T:Nat)(cells:List PV)(j E sz:Nat)(hk:aw h kb= .box T cells)(hj:cells[j]? =some (.d (.v (.slice none 0 0)))){h':List Chunk}(hh:h'=bu h kb (.box T (av cells j [.own h.length 0]))++[.row E sz 0 []]):eo P n m e h e h':=by
 intro X _ _ re a w hr;subst hh;obtain⟨c,hc⟩:=hr;obtain⟨c',q1,q2⟩:=hc.new_row (k:=h.length) (w':=w) (fD h) (by omega) E sz [] (.slice none 0 0) [] (Below.refl _ _) .nil (fun b hb=>by cases hb) ⟨rfl,fun j d x h=>by simp at h⟩ (by simp) (by simp);have hlt:kb < h.length:=py (by rw[hk];simp);have Pd:j < cells.length:=(Xo.1 hj).1;have BM:(bu h kb (.box T (av cells j [.own h.length 0]))).length=h.length:=by
  have:∀(l:List Chunk) (k:Nat) (c:Chunk),k < l.length→(bu l k c).length=l.length:=by
   intro l;induction l with
   |nil=>intro k c hk;simp at hk
   |cons a l ih=>
    intro k c hk;cases k with
    |zero=>rfl
    |succ k=>simp only[bu,XD];rw[ih k c (by simpa using hk)]
  exact this h kb _ hlt
 have kf:∀k,aw (bu h kb (.box T (av cells j [.own h.length 0]))++[.row E sz 0 []]) k=if k=h.length then .row E sz 0 []else if k=kb then .box T (av cells j [.own h.length 0])else aw h k:=by
  intro k;rw[jo,BM,fO (by omega)]
 have hold:∀k,cz [(h.length,Chunk.row E sz 0 [])] (aw h) k=if k=h.length then .row E sz 0 []else aw h k:=fun k=>rfl;have cV:∀k,c'.block k (aw (bu h kb (.box T (av cells j [.own h.length 0]))++[.row E sz 0 []]) k)=c'.block k (cz [(h.length,Chunk.row E sz 0 [])] (aw h) k):=by
  intro k;rw[kf,hold];by_cases h1:k=h.length
  ·rw[if_pos h1,if_pos h1]
  ·rw[if_neg h1,if_neg h1];by_cases h2:k=kb
   ·subst h2;rw[if_pos rfl,hk];rfl
   ·rw[if_neg h2]
 refine⟨c',q1.size,q1.defers,q1.ext,q1.inv,q1.fresh,?_,?_,?_,q1.env,?_,q1.lent⟩
 ·intro b;have:=q1.mu b;simp only[bG]at this ⊢;simpa only[cV]using this
 ·intro k b;have:=q1.new k b;simp only[bG]at this ⊢;rwa [cV]
 ·intro k k' b;have:=q1.apart k k' b;simp only[bG]at this ⊢;rwa [cV,cV]
 ·intro k;have bD:=q1.chunk k;simp only[bG]at bD ⊢;rw[kf];rw[hold]at bD;by_cases h1:k=h.length
  ·rw[if_pos h1]at bD ⊢;exact bD
  ·rw[if_neg h1]at bD ⊢;by_cases h2:k=kb
   ·subst h2;rw[if_pos rfl];rw[hk]at bD;have BS:=hc.chunk k;simp only[bG]at BS;rw[hk]at BS;cases bD with
    |box _ _ b vs g1 g2 g3 g4=>
     have hvj:vs[j]? =some (.slice none 0 0):=by
      have hjv:j < vs.length:=by rw[←g3.1];exact Pd
      obtain⟨u,hu⟩:∃u,vs[j]? =some u:=⟨_,Xj hjv⟩;have:=g3.2 j _ u hj hu;cases this with
      |d _ _ h=>cases h;exact hu
     have jQ:av vs j [.slice none 0 0]=vs:=by
      apply Yh;intro i;rw[gH (by simp;rw[←g3.1];exact Pd)];split
      ·rename_i hi;obtain rfl:i=j:=by simp at hi;omega
       rw[hvj];simp
      ·rfl
     have xV:bj c' w [.own h.length 0] [.slice none 0 0]:=⟨rfl,fun i d x hd hx=>by
      cases i with
      |zero=>simp at hd hx;subst hd;subst hx;exact q2
      |succ i=>simp at hd⟩
     have yi:=mi (off:=j) g3 xV (by simp;omega);rw[jQ]at yi;exact .box T _ b vs g1 g2 yi (fun d hd=>(kk hd).elim (g4 d) (fun hd=>by simp at hd;subst hd;rfl))
   ·rw[if_neg h2];exact bD
mutual
def fz (k g:Nat)(d:D):PV→PV
 | .own k' g'=>if k'=k∧g'=g then .d d else .own k' g'
 | .clo f caps=> .clo f (jE k g d caps)
 | .agg l=> .agg (jE k g d l)
 | .tup l=> .tup (jE k g d l)
 | .d x=> .d x
 | .any=> .any
 | .ptr k' o=> .ptr k' o
 | .rp k' g' sz i j=> .rp k' g' sz i j
 | .osl k' g' sz a n=> .osl k' g' sz a n
 | .mref k'=> .mref k'
def jE (k g:Nat)(d:D):List PV→List PV
 |[]=>[]
 |p::l=>fz k g d p::jE k g d l
end
theorem ni (k g:Nat)(d:D):∀l,jE k g d l=l.map (fz k g d)
 |[]=>rfl
 |p::l=>by simp only[jE,ni k g d l,Xm]
theorem cS (k g:Nat)(d:D):∀(l:List D),jE k g d (l.map .d)=l.map .d
 |[]=>rfl
 |x::l=>by simp only[Xm,jE,fz,cS k g d l]
def iV (k g:Nat)(d:D):List (List PV)→List (List PV)
 |[]=>[]
 |r::l=>jE k g d r::iV k g d l
theorem rM (k g:Nat)(d:D):∀l,iV k g d l=l.map (·.map (fz k g d))
 |[]=>rfl
 |p::l=>by simp only[iV,rM k g d l,ni,Xm]
theorem cG (k g:Nat)(d:D):∀(l:List (List D)),iV k g d (ab l)=ab l
 |[]=>rfl
 |x::l=>by
  have:=cG k g d l;simp only[ab]at this;simp only[ab,Xm,iV,cS,this]
def kG (k g:Nat)(d:D):Chunk→Chunk
 | .box T cells=> .box T (jE k g d cells)
 | .row E sz g' rows=> .row E sz g' (iV k g d rows)
 |c=>c
def lG (k g:Nat)(d:D):cm→cm
 |[]=>[]
 |(t,p)::l=>(t,fz k g d p)::lG k g d l
def iL (k g:Nat)(d:D):Nat→List Chunk→List Chunk
 |_,[]=>[]
 |j,c::l=>(if j=k then .gone else kG k g d c)::iL k g d (j+1) l
theorem C7 (k g:Nat)(d:D):∀(e:cm) (t:Nat),eG (lG k g d e) t=fz k g d (eG e t)
 |[],t=>rfl
 |(t',p)::l,t=>by
  simp only[lG,eG];by_cases h:t=t'
  ·rw[if_pos h,if_pos h]
  ·rw[if_neg h,if_neg h];exact C7 k g d l t
theorem G8 (k g:Nat)(d:D):∀(h:List Chunk) (j i:Nat),aw (iL k g d j h) i=if i+j=k then (if i < h.length then .gone else .none)else kG k g d (aw h i)
 |[],j,i=>by simp[iL,aw,kG]
 |c::l,j,0=>by
  simp only[iL,aw,XK,XD,ZM,if_true]
 |c::l,j,i+1=>by
  simp only[iL,aw];rw[G8 k g d l (j+1) i];have e1:(i+(j+1)=k)=(i+1+j=k):=by apply propext;omega
  have e2:(i < l.length)=(i+1 < (c::l).length):=by apply propext;simp
  simp only[e1,e2]
theorem aA {P:Program}{n m:Nat}{e:cm}{h:List Chunk}(k g E sz:Nat)(rows:List (List D))(hk:aw h k= .row E sz g (ab rows)):eo P n m e h (lG k g (.sl sz rows) e) (iL k g (.sl sz rows) 0 h):=by
 intro X _ _ re a w hr;obtain⟨c,hc⟩:=hr;have hf:=hc.freeze [k];generalize ee:({c with M:=lF c (bG e h).heap [k]}:Cx)=cc at hf;have rc:cc.bl=c.bl:=by rw[←ee]
 have ed:cc.ov=c.ov:=by rw[←ee]
 have W8:cc.M=lF c (aw h) [k]:=by rw[←ee];rfl
 have hlt:k < h.length:=py (by rw[hk];simp);have key:∀(p:PV) (v:Value),RepP cc w p v→RepP cc w (fz k g (.sl sz rows) p) v:=by
  intro p v hp;induction hp with
  |own k' g' v h1 h2=>
   simp only[fz];by_cases e:k'=k∧g'=g
   ·rw[if_pos e];obtain⟨rfl,rfl⟩:=e;refine .d _ _ ?_;rw[W8];have hv:aS (bG e h).heap 1 (.own k' g')=some (.sl sz rows):=by
     simp only[aS,bG,hk,if_true,d6,Yg]
    exact kF hc (T:=[k']) 1 hv (fun k2 mX=>by simpa[cO,bG,hk,nf]using mX) (.own k' g' v (by rw[←ed];exact h1) h2)
   ·rw[if_neg e];exact .own k' g' v h1 h2
  |clo f caps vs hl aY ih=>
   simp only[fz,ni];refine .clo f _ vs (by rw[XF];exact hl) fun j d x hj hx=>?_;rw[XA,XG]at hj;obtain⟨y,hy,rfl⟩:=hj;exact ih j y x hy hx
  |agg caps vs hl h1 aY ih=>
   simp only[fz,ni];refine .agg _ vs (by rw[XF];exact hl) (fun d hd=>?_) fun j d x hj hx=>?_
   ·obtain⟨y,hy,rfl⟩:=XH.1 hd;have:=h1 y hy;cases y<;>simp only[fz]<;>first|exact this|(split<;>first|rfl|exact this)
   ·rw[XA,XG]at hj;obtain⟨y,hy,rfl⟩:=hj;exact ih j y x hy hx
  |tup caps vs hl aY ih=>
   simp only[fz,ni];refine .tup _ vs (by rw[XF];exact hl) fun j d x hj hx=>?_;rw[XA,XG]at hj;obtain⟨y,hy,rfl⟩:=hj;exact ih j y x hy hx
  |d x v h1=>exact .d x v h1
  |any v=>exact .any v
  |ptr k' off b h1=>exact .ptr k' off b h1
  |rp k' g' sz' i j b nn cap h1=>exact .rp k' g' sz' i j b nn cap h1
  |osl k' g' sz' a' nn b o N cap h1 h2 h3 h4=>exact .osl k' g' sz' a' nn b o N cap h1 h2 h3 h4
  |mref k' b h1=>exact .mref k' b h1
 have one:∀(y:PV),y.one=true→(fz k g (.sl sz rows) y).one=true:=by
  intro y hy;cases y<;>simp only[fz]<;>first|exact hy|(split<;>first|rfl|exact hy)
 have keys:∀(l:List PV) (vs:List Value),bj cc w l vs→bj cc w (l.map (fz k g (.sl sz rows))) vs:=by
  intro l vs hl;refine⟨by rw[XF];exact hl.1,fun j d x hj hx=>?_⟩;rw[XA,XG]at hj;obtain⟨y,hy,rfl⟩:=hj;exact key _ _ (hl.2 j y x hy hx)
 have kf:∀i,aw (iL k g (.sl sz rows) 0 h) i=kG k g (.sl sz rows) (cz ([k].map fun k=>(k,.gone)) (aw h) i):=by
  intro i;rw[G8,mv,X0];by_cases e:i=k
  ·subst e;rw[if_pos rfl,if_pos hlt,if_pos (by simp)];rfl
  ·rw[if_neg e,if_neg (by simpa using e)]
 have pU:∀i ch,cc.block i (kG k g (.sl sz rows) ch)=cc.block i ch:=fun i ch=>by cases ch<;>rfl
 refine⟨cc,hf.size,hf.defers,hf.ext,hf.inv,hf.fresh,fun b=>?_,fun i b hb=>?_,fun i j b hb hb'=>?_,fun t=>?_,fun i=>?_,hf.lent⟩
 ·rw[hf.mu b];simp only[bG,kf,pU]
 ·simp only[bG,kf,pU]at hb;exact hf.new i b hb
 ·simp only[bG,kf,pU]at hb hb';exact hf.apart i j b hb hb'
 ·show RepP cc w (eG (lG k g (.sl sz rows) e) t) _;rw[C7];exact key _ _ (hf.env t)
 ·have bD:=hf.chunk i;simp only[bG,kf]at bD ⊢;generalize cz ([k].map fun k=>(k,.gone)) (aw h) i=ch at bD;cases bD with
  |none h1 h2=>exact .none h1 h2
  |gone=>exact .gone
  |mp nB sB ents b h1 h2 h3=>exact .mp nB sB ents b h1 h2 h3
  |it nB sB ents seen b bm h1 h2 h3 h4=>exact .it nB sB ents seen b bm h1 h2 h3 h4
  |box T cells b vs h1 h2 h3 h4=>
   refine .box T _ b vs h1 h2 (by rw[ni];exact keys _ _ h3) (fun d hd=>?_);rw[ni]at hd;obtain⟨y,hy,rfl⟩:=XH.1 hd;exact one y (h4 y hy)
  |row E' sz' g' rows' v xs h1 h2 h3 h4 h5 h6=>
   refine .row E' sz' g' _ v xs h1 (by rw[rM,XF];exact h2) (by rw[rM,←List.map_flatten];exact keys _ _ h3) (fun r hr=>?_) (fun r hr d hd=>?_) h6
   ·rw[rM]at hr;obtain⟨y,hy,rfl⟩:=XH.1 hr;rw[XF];exact h4 y hy
   ·rw[rM]at hr;obtain⟨y,hy,rfl⟩:=XH.1 hr;obtain⟨z,hz,rfl⟩:=XH.1 hd;exact one z (h5 y hy z hz)
theorem aV {P:Program}{n m:Nat}{e e':cm}{h h':List Chunk}(he:e=e')(hh:h=h'):eo P n m e h e' h':=by
 subst he;subst hh;exact eo.refl _ _ _ _ _
section
open Go.Proofs
def FA (n:Int):Int:=2 ^ (16 - n).toNat - 1
theorem A3 (n:Int):FA n=((2 ^ (16 - n).toNat - 1:Nat):Int):=by
 have:=Nat.one_le_two_pow (n:=(16 - n).toNat);have h4:((2 ^ (16 - n).toNat:Nat):Int)=(2:Int) ^ (16 - n).toNat:=by simp
 unfold FA;omega
theorem wt (n:Int)(h0:0≤n):(2:Int) ^ (16 - n).toNat≤65536∧1≤(2:Int) ^ (16 - n).toNat:=by
 have h1:(16 - n).toNat≤16:=by omega
 have h2:=Nat.pow_le_pow_right (n:=2) (by omega) h1;have h3:=Nat.one_le_two_pow (n:=(16 - n).toNat);have h4:((2 ^ (16 - n).toNat:Nat):Int)=(2:Int) ^ (16 - n).toNat:=by simp
 omega
theorem qJ (n:Int)(h0:0≤n):0≤FA n∧FA n≤65535:=by
 have:=wt n h0;unfold FA;omega
theorem oM (n:Int)(w:World)(h0:0≤n)(h1:n≤16):
 Calls prog 235 #[.int .i64 n] w fun e w'=>e= .returned (.int .i64 (FA n))∧w=w':=by
 have hp:=wt n h0;go_enter func235,ntmps235
 go_wp2
 go_ret
 exact⟨rfl,rfl⟩
def chk (a l:Int):Int:=if l < 0∨l>16∨a < 0∨a>65535 then 3 else if a % 2 ^ (16 - l).toNat=0 then 0 else 1
theorem PR (a l:Int)(h0:0≤a)(h1:a≤65535)(h2:0≤l):bits .and .i64 a (FA l)=a % 2 ^ (16 - l).toNat:=by
 obtain⟨n,rfl⟩:=ZE h0;rw[A3,B9 _ _ (by omega) (by have:=qJ l h2;rw[A3]at this;omega),Nat.and_two_pow_sub_one_eq_mod];simp
theorem Mb {a l:Int}(h:l < 0∨l>16∨a < 0∨a>65535):chk a l=3:=if_pos h
theorem FB {a l:Int}(h1:0≤l)(h2:l≤16)(h3:0≤a)(h4:a≤65535):chk a l=if a % 2 ^ (16 - l).toNat=0 then 0 else 1:=if_neg (by omega)
theorem pA (a l:Int)(w:World):
 Calls prog 157 #[.agg #[.int .i64 a,.int .i64 l]] w fun e w'=>e= .returned (.int .i64 (chk a l))∧cW w w':=by
 by_cases hl:l < 0∨l>16∨a < 0∨a>65535
 ·have hc:=Xk (Mb hl);by_cases h1:l < 0
  ·clear hl;go_enter func157,ntmps157
   go_wp2_with fail
   go_ret
   exact⟨bM hc.out.symm,(Below.refl _ _).alloc (XC _) _⟩
  by_cases h2:l>16
  ·clear hl;go_enter func157,ntmps157
   go_wp2_with fail
   go_ret
   exact⟨bM hc.out.symm,(Below.refl _ _).alloc (XC _) _⟩
  by_cases h3:a < 0
  ·clear hl;go_enter func157,ntmps157
   go_wp2_with fail
   go_ret
   exact⟨bM hc.out.symm,(Below.refl _ _).alloc (XC _) _⟩
  have h4:a>65535:=by omega
  clear hl;go_enter func157,ntmps157
  go_wp2_with fail
  go_ret
  exact⟨bM hc.out.symm,(Below.refl _ _).alloc (XC _) _⟩
 ·have hm:=qJ l (by omega);obtain⟨g1,g2,g3,g4⟩:0≤l∧l≤16∧0≤a∧a≤65535:=by omega
  clear hl;have hc:=Xk (FB g1 g2 g3 g4);have ha:=Xk (PR a l g3 g4 g1);go_enter func157,ntmps157
  go_wp2_with fail
  go_quiet ((go_at_call 235;exact Calls.quiet_of_same ((oM _ _ (by omega) (by omega)).mono (fun _ _ h=>⟨h.1,h.2.symm⟩))))
  go_wp2_with fail
  ·go_ret
   rename_i h;rw[ha.out]at h;exact⟨bM (by rw[hc.out,if_neg (by simpa using h)]),below_drewN ((Below.refl _ _).alloc (XC _) _) _⟩
  ·go_ret
   rename_i h;rw[ha.out]at h;exact⟨bM (by rw[hc.out,if_pos (by simpa using h)]),below_drewN ((Below.refl _ _).alloc (XC _) _) _⟩
structure Pfx where
 at_:Int
 len:Int
 deriving DecidableEq
def Pfx.R (cs:List Value)(p:Pfx):Prop:=cs=[.int .i64 p.at_,.int .i64 p.len]
def Pfx.chk (p:Pfx):Int:=Go.Proofs.YtojojebildofnaaGreatDoor.chk p.at_ p.len
theorem zG {A:md}{w:World}{ao:Option Addr}{cap:Nat}{l:List Pfx}(h:Sl A w 2 Pfx.R ao cap l):
 Calls prog 252 #[.slice ao l.length cap] w fun e w'=>e= .returned (.bool (l.all fun p=>p.chk==0))∧cW w w':=by
 have gA:=h.cap_le;have Ki:=h.cap_max;go_enter func252,ntmps252
 go_wp2_with fail
 go_loopw [7] (fun i wr=>∃k:Nat,k≤l.length∧i= .int .i64 k∧(∀p∈l.take k,p.chk=0)∧Bel w.heap.size w wr) (fun i _=>l.length - (intOf i).toNat)
 case atStart=>exact⟨0,XL _,rfl,by simp,Bel.refl _⟩
 case round=>
  obtain⟨k,hk,rfl,bK,hb⟩:=hrel;by_cases hlt:k < l.length
  ·obtain⟨b,off,cs,hao,-,-,hR,hc⟩:=h.elem k hlt;generalize hp:l[k]=p at hR;unfold Pfx.R at hR;subst hR;have KI:=hc 0 (by simp);have RP:=hc 1 (by simp);simp at KI RP;have rc:=dn KI;have KI:=hb.cell rc KI;have RP:=hb.cell rc RP;replace hp:=Xk hp;replace bK:=Xk bK;clear hc;subst hao;go_wp2_with fail
   have hle:=hb.le;refine(pA _ _ _).mono ?_;rintro e w1 ⟨rfl,bV⟩;have Sv:Bel w.heap.size w w1:=by(repeat(first|with_reducible assumption|with_reducible exact Bel.refl _|with_reducible refine Bel.alloc ?_ _|with_reducible refine Bel.drewN ?_ _|with_reducible refine Bel.drew ?_|(with_reducible refine ak ?_ ?_ _;rotate_left;(first|omega|(simp;done)|(simp;omega)))|(with_reducible refine Bel.setCell ?_ (p:=_) ?_ _;rotate_left;(first|(simp;done)|omega|(simp;omega)))|refine Bel.call ?_ (by assumption)|(refine EX.bel ?_ (by assumption) ?_;rotate_left;(first|omega|(simp;omega)))))
   replace Sv:=Xk Sv;clear hb;by_cases hz:Go.Proofs.YtojojebildofnaaGreatDoor.chk p.at_ p.len=0
   ·have uZ:(Go.Proofs.YtojojebildofnaaGreatDoor.chk p.at_ p.len !=0)=false:=by simp[hz]
    replace hz:=Xk hz;go_wp2_with fail
    go_roundw
    case rel=>exact⟨k+1,by omega,by go_num,by
     intro q hq;rw[Zq hlt]at hq;rcases X4.1 hq with hq|hq
     ·exact bK.out q hq
     ·rw[X7.1 hq,hp.out];exact hz.out,Sv.out⟩
    case measure=>simp[intOf];omega
   ·have uZ:(Go.Proofs.YtojojebildofnaaGreatDoor.chk p.at_ p.len !=0)=true:=by simp[hz]
    go_wp2_with fail
    go_ret
    refine⟨?_,Sv.out.bel⟩;have:(l.all fun p=>p.chk==0)=false:=by
     rw[YX];exact⟨l[k],Ym hlt,by rw[hp.out];simpa[Pfx.chk]using hz⟩
    rw[this];rfl
  ·obtain rfl:k=l.length:=by omega
   go_wp2_with fail
   go_ret
   refine⟨?_,hb.bel⟩;have:(l.all fun p=>p.chk==0)=true:=by
    rw[XB];intro p hp;rw[Xq]at bK;simpa using bK p hp
   rw[this];rfl
end
theorem ah {α:Type}{l:List α}{k:Nat}{x:α}(h:l[k]? =some x):l.take (k+1)=l.take k++[x]:=by
 rw[List.take_add_one,h];rfl
structure Lse where
 at_:Pfx
 kind:Int
 owner:Int
 till:Int
 deriving DecidableEq
structure Rul where
 min:Int
 max:Int
 usual:Int
 cool:Int
 deriving DecidableEq
structure Pol where
 id:Int
 up:Int
 root:Pfx
 rule:Rul
 leases:List Lse
 deriving DecidableEq
structure Bok where
 tick:Int
 pools:List Pol
 deriving DecidableEq
@[go_sem] def Vf (n:Int):D:= .v (.int .i64 n)
@[go_sem] def aK (p:Pfx):List D:=[.v (.int .i64 p.at_),.v (.int .i64 p.len)]
@[go_sem] def A4 (r:Rul):List D:=[.v (.int .i64 r.min),.v (.int .i64 r.max),.v (.int .i64 r.usual),.v (.int .i64 r.cool)]
@[go_sem] def aQ (l:Lse):List D:=[.v (.int .i64 l.at_.at_),.v (.int .i64 l.at_.len),.v (.int .i64 l.kind),.v (.int .i64 l.owner),.v (.int .i64 l.till)]
@[go_sem] def am (p:Pol):List D:=[.v (.int .i64 p.id),.v (.int .i64 p.up),.v (.int .i64 p.root.at_),.v (.int .i64 p.root.len),.v (.int .i64 p.rule.min),.v (.int .i64 p.rule.max),.v (.int .i64 p.rule.usual),.v (.int .i64 p.rule.cool),.sl 5 (p.leases.map aQ)]
@[go_sem] def bN (b:Bok):List D:=[.v (.int .i64 b.tick),.sl 9 (b.pools.map am)]
def IT (root:Pfx)(us:List Pfx):List D:=[.v (.int .i64 root.at_),.v (.int .i64 root.len),.sl 2 (us.map aK)]
theorem C8 (p:Pfx):(aK p).length=2:=rfl
structure Fce where
 id:Int
 addrs:List Int
 deriving DecidableEq
structure Sbn where
 id:Int
 at_:Pfx
 faces:List Fce
 deriving DecidableEq
structure Rng where
 at_:Pfx
 pool:Int
 deriving DecidableEq
structure Vpc where
 id:Int
 ranges:List Rng
 subs:List Sbn
 deriving DecidableEq
@[go_sem] def dF (n:Int):List D:=[.v (.int .i64 n)]
@[go_sem] def cX (f:Fce):List D:=[.v (.int .i64 f.id),.sl 1 (f.addrs.map dF)]
@[go_sem] def bI (s:Sbn):List D:=[.v (.int .i64 s.id),.v (.int .i64 s.at_.at_),.v (.int .i64 s.at_.len),.sl 2 (s.faces.map cX)]
@[go_sem] def cq (r:Rng):List D:=[.v (.int .i64 r.at_.at_),.v (.int .i64 r.at_.len),.v (.int .i64 r.pool)]
@[go_sem] def aD (v:Vpc):List D:=[.v (.int .i64 v.id),.sl 3 (v.ranges.map cq),.sl 4 (v.subs.map bI)]
theorem wu (f:Fce):(cX f).length=2:=rfl
theorem my (s:Sbn):(bI s).length=4:=rfl
theorem mz (r:Rng):(cq r).length=3:=rfl
theorem ij (v:Vpc):(aD v).length=3:=rfl
structure Lnk where
 a:Int
 b:Int
 deriving DecidableEq
structure Net where
 vpcs:List Vpc
 links:List Lnk
 deriving DecidableEq
@[go_sem] def cT (l:Lnk):List D:=[.v (.int .i64 l.a),.v (.int .i64 l.b)]
@[go_sem] def eI (n:Net):List D:=[.sl 3 (n.vpcs.map aD),.sl 2 (n.links.map cT)]
structure Ste where
 book:Bok
 net:Net
 deriving DecidableEq
structure Cmd where
 op:Int
 a:Int
 b:Int
 c:Int
 at_:Pfx
 rule:Rul
 deriving DecidableEq
structure Ans where
 err:Int
 at_:Pfx
 n:Int
 deriving DecidableEq
def Ans.zero:Ans:=⟨0,⟨0,0⟩,0⟩
def Ans.er (e:Int):Ans:=⟨e,⟨0,0⟩,0⟩
def Ste.zero:Ste:=⟨⟨0,[]⟩,⟨[],[]⟩⟩
@[go_sem] def dR (s:Ste):List D:=[.v (.int .i64 s.book.tick),.sl 9 (s.book.pools.map am),.sl 3 (s.net.vpcs.map aD),.sl 2 (s.net.links.map cT)]
@[go_sem] def oN (c:Cmd):List D:=[.v (.int .i64 c.op),.v (.int .i64 c.a),.v (.int .i64 c.b),.v (.int .i64 c.c),.v (.int .i64 c.at_.at_),.v (.int .i64 c.at_.len),.v (.int .i64 c.rule.min),.v (.int .i64 c.rule.max),.v (.int .i64 c.rule.usual),.v (.int .i64 c.rule.cool)]
@[go_sem] def G9 (a:Ans):List D:=[.v (.int .i64 a.err),.v (.int .i64 a.at_.at_),.v (.int .i64 a.at_.len),.v (.int .i64 a.n)]
def zH:D→Value
 | .v x=>x
 |_=>undef
def R7:D→Value
 | .v x=>x
 | .agg l=> .agg (l.map zH).toArray
 |_=>undef
def C9:D→Value
 | .v x=>x
 | .agg l=> .agg (l.map zH).toArray
 | .tup l=> .tuple (l.map R7).toArray
 |_=>undef
theorem oO {vs:List Value}{ds:List D}{f:D→Value}(hl:ds.length=vs.length)(h:∀(j:Nat) (d:D) (x:Value),ds[j]? =some d→vs[j]? =some x→x=f d):vs=ds.map f:=by
 apply Yh;intro j;rw[XA];cases hd:ds[j]? with
 |none=>
  have:ds.length≤j:=by simpa using hd
  rw[XN (by omega)];rfl
 |some d=>
  have hlt:j < vs.length:=by rw[←hl];exact(Xo.1 hd).1
  rw[Xj hlt,h j d _ hd (Xj hlt)];rfl
theorem Ha {M:Nat→Prop}{w:World}{d:D}{v:Value}(h:RepD M w d v)(hf:d.isV=true):v=zH d:=by
 cases d<;>simp[D.isV]at hf;cases h;rfl
theorem Da {M:Nat→Prop}{w:World}{d:D}{v:Value}(h:RepD M w d v)(hf:d.flat=true):v=C9 d:=by
 cases h with
 |v=>rfl
 |agg cells vs hl h1 aY=>
  simp only[D.flat,XB]at hf;rw[oO (f:=zH) hl fun j d x hj hx=>Ha (aY j d x hj hx) (hf d (Xl hj))];rfl
 |tup ds vs hl aY=>
  simp only[D.flat,XB]at hf;rw[oO (f:=R7) hl fun j d x hj hx=>?_]
  ·rfl
  ·have h0:=aY j d x hj hx;have h1:=hf d (Xl hj);cases h0 with
   |v=>rfl
   |agg cells us hl' h1' pm=>
    simp only[XB]at h1;rw[oO (f:=zH) hl' fun j d x hj hx=>Ha (pm j d x hj hx) (h1 d (Xl hj))];rfl
   |_=>simp at h1
 |_=>simp[D.flat]at hf
def D.aggOK:D→Bool
 | .agg l=>l.all D.one
 | .tup l=>l.all fun d=>match d with| .agg l=>l.all D.one|_=>true
 |_=>true
theorem Hb {M:Nat→Prop}{w:World}(ds:List D)(hf:∀d∈ds,d.isV=true):∀(j:Nat) (d:D) (x:Value),ds[j]? =some d→(ds.map zH)[j]? =some x→RepD M w d x:=by
 intro j d x hj hx;rw[XA,hj]at hx;cases hx;have:=hf d (Xl hj);cases d<;>simp[D.isV]at this;exact .v _
theorem Hc {M:Nat→Prop}{w:World}{d:D}(hf:d.flat=true)(h1:d.aggOK=true):RepD M w d (C9 d):=by
 cases d with
 |v x=>exact .v x
 |agg l=>
  simp only[D.flat,XB]at hf;simp only[D.aggOK,XB]at h1;exact .agg l _ (by simp) h1 (Hb l hf)
 |tup l=>
  simp only[D.flat,XB]at hf;simp only[D.aggOK,XB]at h1;refine .tup l _ (by simp) fun j d x hj hx=>?_;rw[XA,hj]at hx;cases hx;have h2:=hf d (Xl hj);have h3:=h1 d (Xl hj);cases d with
  |v x=>exact .v x
  |agg l'=>
   simp only[XB]at h2 h3;exact .agg l' _ (by simp) h3 (Hb l' h2)
  |_=>simp at h2
 |_=>simp[D.flat]at hf
theorem dG {P:Program}{f:Nat}{ds:List D}{r:D}(hn:vR P f)(hf:∀d∈ds,d.flat=true)(hr:r.flat=true)(xV:r.aggOK=true)(h:∀w,Calls P f (ds.map C9).toArray w fun e w'=>e= .returned (C9 r)∧cW w w'):ae P f ds r:=by
 refine⟨hn,fun M w vs _ _ dI=>?_⟩;rw[oO (f:=C9) dI.1 fun j d x hj hx=>Da (dI.2 j d x hj hx) (hf d (Xl hj))];exact(h w).mono fun e w' ⟨he,hx⟩=>⟨C9 r,he,Hc hr xV,hx⟩
theorem eC {M:Nat→Prop}{w:World}{d:D}{ds:List D}{vs:List Value}(h:co M w (d::ds) vs):∃v us,vs=v::us∧RepD M w d v∧co M w ds us:=by
 cases vs with
 |nil=>have:=h.1;simp at this
 |cons v us=>exact⟨v,us,rfl,h.2 0 d v rfl rfl,⟨by simpa using h.1,fun j d x hj hx=>h.2 (j+1) d x (by simpa using hj) (by simpa using hx)⟩⟩
theorem ko {M:Nat→Prop}{w:World}{vs:List Value}(h:co M w [] vs):vs=[]:=by
 cases vs with
 |nil=>rfl
 |cons v us=>have:=h.1;simp at this
theorem Mc {M:Nat→Prop}{w:World}{ds:List D}{v:Value}(h:RepD M w (.agg ds) v):∃vs:List Value,v= .agg vs.toArray∧co M w ds vs:=by
 cases h with
 |agg _ vs hl h1 aY=>exact⟨vs,rfl,hl,aY⟩
theorem oP {M:Nat→Prop}{w:World}{x v:Value}(h:RepD M w (.v x) v):v=x:=by cases h;rfl
theorem PS {M:Nat→Prop}{w:World}{us:List Pfx}{v:Value}(h:RepD M w (.sl 2 (us.map aK)) v):∃ao cap,v= .slice ao us.length cap∧Sl (fun b=>¬M b) w 2 Pfx.R ao cap us:=by
 generalize hr:us.map aK=rows at h;have hl:us.length=rows.length:=by rw[←hr];simp
 cases h with
 |nil _ ao cap hm=>
  have:us=[]:=XZ (by simpa using hl);subst this;exact⟨ao,cap,rfl,⟨XL _,hm,fun i hi=>absurd hi (YT _)⟩⟩
 |sl _ _ b off cap f hM hb hc hm hr' h1 bY aY=>
  refine⟨_,cap,by rw[hl],⟨by omega,hm,fun i hi=>⟨b,off,[.int .i64 us[i].at_,.int .i64 us[i].len],rfl,hM,rfl,rfl,fun j hj=>?_⟩⟩⟩;have bO:rows[i]? =some (aK us[i]):=by rw[←hr,XA,Xj hi];rfl
  have hcj:=bY i j (by omega) hj;rw[hcj];match j,hj with
  |0,_=>rw[oP (aY i 0 _ _ bO rfl)];rfl
  |1,_=>rw[oP (aY i 1 _ _ bO rfl)];rfl
theorem FC {M:Nat→Prop}{w:World}{root:Pfx}{us:List Pfx}{v:Value}(h:RepD M w (.agg (IT root us)) v):∃uo cap,v= .agg #[.int .i64 root.at_,.int .i64 root.len,.slice uo us.length cap]∧Sl (fun b=>¬M b) w 2 Pfx.R uo cap us:=by
 obtain⟨vs,rfl,sy⟩:=Mc h;obtain⟨a,vs,rfl,ha,sy⟩:=eC sy;obtain⟨b,vs,rfl,hb,sy⟩:=eC sy;obtain⟨c,vs,rfl,hc,sy⟩:=eC sy;rw[ko sy,oP ha,oP hb];obtain⟨ao,cap,rfl,hs⟩:=PS hc;exact⟨ao,cap,rfl,hs⟩
theorem IU {α:Type}{M:Nat→Prop}{A:md}{w:World}{k:Nat}{R:List Value→α→Prop}{f:α→List Value}{l:List α}{ao:Option Addr}{cap:Nat}(h:Sl A w k R ao cap l)(hR:∀cs x,R cs x→cs=f x)(hk:∀x,(f x).length=k)(h0:0 < k)(h1:∀x,∀v∈f x,v.oneCell'=true)(hA:∀b,A b→¬M b):RepD M w (.sl k (l.map fun x=>(f x).map .v)) (.slice ao l.length cap):=by
 cases l with
 |nil=>exact .nil k ao cap h.cap_max
 |cons u us=>
  obtain⟨b,off,cs,rfl,hAb,hl,hRu,ly⟩:=h.elem 0 (by simp);have bY:∀i (hi:i < (u::us).length) j,j < k→w.cell? ⟨b,off+i*k+j,none⟩=some ((f ((u::us)[i])).getD j undef):=by
   intro i hi j hj;obtain⟨b',off',cs',e,-,hl',hR',ve⟩:=h.elem i hi;cases e;have:=ve j (by omega);have e2:=hR _ _ hR';subst e2;rw[this];simp only[XE,Xj (show j < (f (u::us)[i]).length by rw[hk];exact hj),Yy]
  have aT:((u::us).map fun x=>(f x).map D.v).length=(u::us).length:=by simp
  rw[←aT];refine .sl k ((u::us).map fun x=>(f x).map D.v) b off cap (fun i j=>(f ((u::us).getD i u)).getD j undef) (hA b hAb) (dn (bY 0 (by simp) 0 h0)) (by rw[aT];exact h.cap_le) h.cap_max (fun r hr=>?_) (fun r hr=>?_) (fun i j hi hj=>?_) (fun i j row d hi hj=>?_)
  ·obtain⟨x,-,rfl⟩:=XH.1 hr;rw[XF];exact hk x
  ·obtain⟨x,-,rfl⟩:=XH.1 hr;intro d hd;obtain⟨v,hv,rfl⟩:=XH.1 hd;exact h1 x v hv
  ·have hi':i < (u::us).length:=by simpa using hi
   rw[bY i hi' j hj];simp only[XE,Xj hi',Yy]
  ·rw[XA]at hi;simp only[XG]at hi;obtain⟨x,hx,rfl⟩:=hi;rw[XA]at hj;simp only[XG]at hj;obtain⟨v,hv,rfl⟩:=hj;simp only[XE,hx,hv,Yy];exact .v _
def yD (c:Cmd):WCmd:=⟨c.op,c.a,c.b,c.c,c.at_.at_,c.at_.len,c.rule.min,c.rule.max,c.rule.usual,c.rule.cool⟩
def S0 (c:WCmd):Cmd:=⟨c.op,c.a,c.b,c.c,⟨c.at_,c.len⟩,⟨c.min,c.max,c.usual,c.cool⟩⟩
theorem IV (c:Cmd):S0 (yD c)=c:=rfl
def uO (c:Cmd):Bool:=(yD c).ok
def FD (c:Cmd):ByteArray:=qA (yD c)
def PT (c:Cmd):ByteArray:=iQ (FD c)
theorem IW (c:Cmd):(FD c).size=37:=pq _
theorem IY (c:Cmd):(PT c).size=42:=oy _
theorem PU (c:Cmd):ae prog 23 [.agg (oN c)] (.tup [.v (.string (if uO c then FD c else⟨#[]⟩)),.v (.int .i64 (if uO c then 0 else 3))]):=by
 refine dG (bU func23 (by kernel_rfl) rfl) (by intro d hd;simp at hd;subst hd;rfl) rfl rfl fun w=>(Il (yD c) w).mono fun e w' h=>⟨h.1.trans ?_,h.2⟩;unfold sQ uO FD;split<;>rfl
theorem PW (s:ByteArray)(h:s.size≤255):ae prog 25 [.v (.string s)] (.tup [.v (.string (iQ s)),.v (.int .i64 0)]):=dG (bU func25 (by kernel_rfl) rfl) (by intro d hd;simp at hd;(repeat(first|(obtain rfl:=hd;rfl)|(rcases hd with rfl|hd; · rfl)))) rfl rfl (fun w=>sP s w h)
open Classical in
noncomputable def repN (s:ByteArray):Nat:=if h:s.size≤16384∧∃n,Replayed s n then h.2.choose else 0
noncomputable def repL (s:ByteArray):List Cmd:=if s.size≤16384 then (kE s (repN s)).map S0 else []
def oQ (s:ByteArray):Int:=if s.size≤16384 then 0 else 2
theorem He {s:ByteArray}{n:Nat}(h:s.size≤16384)(k:Replayed s n):repN s=n:=by
 unfold repN;rw[dif_pos ⟨h,n,k⟩];exact(Exists.choose_spec (⟨n,k⟩:∃n,Replayed s n)).unique k
theorem uj (s:ByteArray):(repL s).length=repN s:=by
 unfold repL;split
 ·simp[fe]
 ·rename_i h;unfold repN;rw[dif_neg (fun k=>h k.1)];rfl
theorem PX {s:ByteArray}{M:Nat→Prop}{w:World}{e:Ending}{w':World}(hM:∀b,M b→b < w.heap.size)(h:La s w e w'):∃v,e= .returned v∧RepD M w' (.tup [.sl 10 ((repL s).map oN),.v (.int .i64 (42*(repN s:Int))),.v (.int .i64 (oQ s))]) v∧cW w w':=by
 rcases h with⟨h,n,ao,cap,hr,rfl,hs,hx⟩|⟨h,rfl,rfl⟩
 ·have hn:=He h hr;refine⟨_,rfl,.tup _ [_,_,_] rfl fun j d x hj hx=>?_,hx⟩;unfold repL oQ at hj;match j with
  |0=>
   cases hx;rw[if_pos h,hn]at hj;cases hj;have:=IU (M:=M) (f:=fun c:WCmd=>c.cs.toList) hs (fun _ _ h=>h) (fun _=>rfl) (by omega) (fun x v hv=>by simp[WCmd.cs]at hv;rcases hv with rfl|rfl|rfl|rfl|rfl|rfl|rfl|rfl|rfl|rfl<;>rfl) (fun b hb hm=>by have:=hM b hm;omega);rw[fe]at this;rw[Z8];exact this
  |1=>cases hj;cases hx;rw[hn];exact .v _
  |2=>cases hj;cases hx;rw[if_pos h];exact .v _
  |j+3=>simp at hj
 ·have hn:repN s=0:=by unfold repN;rw[dif_neg (by omega)]
  refine⟨_,rfl,.tup _ [_,_,_] rfl fun j d x hj hx=>?_,Below.refl _ _⟩;unfold repL oQ at hj;match j with
  |0=>
   cases hx;rw[if_neg (by omega)]at hj;cases hj;exact .nil _ _ _ (by omega)
  |1=>cases hj;cases hx;rw[hn];exact .v _
  |2=>cases hj;cases hx;rw[if_neg (by omega)];exact .v _
  |j+3=>simp at hj
theorem Db (s:ByteArray):ae prog 18 [.v (.string s)] (.tup [.sl 10 ((repL s).map oN),.v (.int .i64 (42*(repN s:Int))),.v (.int .i64 (oQ s))]):=by
 refine⟨bU func18 (by kernel_rfl) rfl,fun M w vs hM hG dI=>?_⟩;obtain⟨v,vs,rfl,h1,dI⟩:=eC dI;rw[ko dI,oP h1];exact(Fg s w).mono fun e w' h=>PX hM h
theorem nj (h:List Chunk)(k:Nat)(ch:Chunk)(hk:k < h.length):aw (bu h k ch)=cz [(k,ch)] (aw h):=by
 funext i;rw[fO (G' hk),ry]
theorem Md {P:Program}{n m:Nat}{e:cm}{h:List Chunk}(t k g E sz l:Nat)(rows:List (List PV))(ht:eG e t= .osl k g sz 0 l)(hk:aw h k= .row E sz g rows)(bH:rows≠[])(hl:l≤rows.length){e':cm}{h':List Chunk}(he:e'=(t,.own k (g+1))::e)(hh:h'=bu h k (.row E sz (g+1) (rows.take l))):eo P n m e h e' h':=by
 intro X _ _ re a w hr;subst he;subst hh;obtain⟨c,hc⟩:=hr;have hlt:k < h.length:=py (by rw[hk];simp);have Uf:=hc.env t;have bD:=hc.chunk k;have ht':(bG e h).env t= .osl k g sz 0 l:=ht;have hk':(bG e h).heap k= .row E sz g rows:=hk;rw[ht']at Uf;rw[hk']at bD;generalize hv:a.tmps.getD t undef=v at Uf;cases Uf with
 |osl _ _ _ _ _ b o N cap ed hn Sr Ox=>
  obtain⟨cur,xs,q1,q2,q3,q4,q5,q6,q7,q8,q9,q10,q11⟩:=dV bD ed bH;have Aw:0 < rows.length:=Zh.2 bH;obtain rfl:o=0:=by rw[Ox (by omega)];simp
  have bt:OwnV w E sz (.slice (some ⟨b,0,none⟩) l (cap - 0)) (rows.take l).length (xs.take (l*sz)):=by
   rw[Xp,Nat.min_eq_left hl];have T4:l*sz≤rows.length*sz:=Yo sz hl;refine .row b l (cap - 0) cur _ (by omega) q1 (by omega) (by omega) q11 (by rw[Xp];omega) ?_;apply Yh;intro j;by_cases hj:j < l*sz
   ·rw[XQ hj,XQ hj,X2,q4 j (by omega)]
   ·rw[XN (by rw[Xp];omega),XN (by rw[Xp];omega)]
  obtain⟨c',r1,r2⟩:=hc.set_row (w':=w) hk' ed ⟨rfl,rfl,rfl,XC _,fun _ _ _=>rfl⟩ bt (.inl (by rw[cF (by omega),cF (by omega)])) (by rw[ic q5];exact⟨by rw[Xp,Xp,q2.1],fun j d x hj hx=>by
   have GG:j < l*sz:=by
    have:=(Xo.1 hj).1;rw[Xp]at this;omega
   rw[XQ GG]at hj hx;exact q2.2 j d x hj hx⟩)
   (fun r hr=>q5 r (Yc hr)) (fun r hr=>q6 r (Yc hr))
  have mZ:=nj h k (.row E sz (g+1) (rows.take l)) hlt;refine⟨c',r1.size,r1.defers,r1.ext,r1.inv,r1.fresh,?_,?_,?_,fun t'=>?_,?_,r1.lent⟩
  ·intro b;have:=r1.mu b;simp only[bG,mZ]at this ⊢;exact this
  ·intro k b;have:=r1.new k b;simp only[bG,mZ]at this ⊢;exact this
  ·intro k k' b;have:=r1.apart k k' b;simp only[bG,mZ]at this ⊢;exact this
  ·simp only[bG,eG];by_cases h1:t'=t
   ·subst h1;rw[if_pos rfl,hv];exact r2
   ·rw[if_neg h1];exact r1.env t'
  ·intro k;have:=r1.chunk k;simp only[bG,mZ]at this ⊢;exact this
theorem IZ {P:Program}{n m:Nat}{e:cm}{h:List Chunk}(t k g E sz:Nat)(rows:List (List PV))(ht:eG e t= .own k g)(hk:aw h k= .row E sz g rows){e':cm}{h':List Chunk}(he:e'=(t,.own k (g+1))::e)(hh:h'=bu h k (.row E sz (g+1) rows)):eo P n m e h e' h':=by
 intro X _ _ re a w hr;subst he;subst hh;obtain⟨c,hc⟩:=hr;have hlt:k < h.length:=py (by rw[hk];simp);have Uf:=hc.env t;have bD:=hc.chunk k;have ht':(bG e h).env t= .own k g:=ht;have hk':(bG e h).heap k= .row E sz g rows:=hk;rw[ht']at Uf;rw[hk']at bD;generalize hv:a.tmps.getD t undef=v at Uf;cases Uf with
 |own _ _ _ ed h1=>
  cases bD with
  |row _ _ _ _ u xs hu bt hr cM h1' hg=>
   rw[ed]at hu;cases hu;obtain⟨c',r1,r2⟩:=hc.set_row (w':=w) hk' ed ⟨rfl,rfl,rfl,XC _,fun _ _ _=>rfl⟩ bt (.inl rfl) hr cM h1';have mZ:=nj h k (.row E sz (g+1) rows) hlt;refine⟨c',r1.size,r1.defers,r1.ext,r1.inv,r1.fresh,?_,?_,?_,fun t'=>?_,?_,r1.lent⟩
   ·intro b;have:=r1.mu b;simp only[bG,mZ]at this ⊢;exact this
   ·intro k b;have:=r1.new k b;simp only[bG,mZ]at this ⊢;exact this
   ·intro k k' b;have:=r1.apart k k' b;simp only[bG,mZ]at this ⊢;exact this
   ·simp only[bG,eG];by_cases h1:t'=t
    ·subst h1;rw[if_pos rfl,hv];exact r2
    ·rw[if_neg h1];exact r1.env t'
   ·intro k;have:=r1.chunk k;simp only[bG,mZ]at this ⊢;exact this
theorem Dc (p q:PV)(e:cm)(t:Nat):eG ((0,q)::[(0,p)]) t=eG [(0,q)] t:=by
 simp only[eG];by_cases h0:t=0
 ·rw[if_pos h0,if_pos h0]
 ·rw[if_neg h0,if_neg h0,if_neg h0]
theorem fg {P:Program}{m:Nat}{h:List Chunk}(k g E sz:Nat)(rows:List (List PV))(hk:aw h k= .row E sz g rows){e':cm}{h':List Chunk}(hw:eo P 1 m [(0,.own k (g+1))] (bu h k (.row E sz (g+1) rows)) e' h'):eo P 1 m [(0,.own k g)] h e' h':=
 ((IZ 0 k g E sz rows rfl hk rfl rfl).trans (tg fun t=> .inr (Dc _ _ [] t).symm)).trans hw
theorem ik {P:Program}{m:Nat}{h:List Chunk}(lz:m≤h.length)(E sz:Nat){e':cm}{h':List Chunk}(hw:eo P 1 m [(0,.own h.length 0)] (h++[.row E sz 0 []]) e' h'):eo P 1 m [(0,.d (.v (.slice none 0 0)))] h e' h':=
 ((dZ lz 0 E sz rfl).trans (tg fun t=> .inr (Dc _ _ [] t).symm)).trans hw
theorem aU {P:Program}{n m:Nat}{e:cm}{h:List Chunk}(k:Nat)(hk:k < h.length):eo P n m e h e (bu h k .gone):=by
 intro X _ _ re a w hr;obtain⟨c,hc⟩:=hr;have hf:=hc.freeze [k];have mZ:=nj h k .gone hk;refine⟨_,hf.size,hf.defers,hf.ext,hf.inv,hf.fresh,?_,?_,?_,hf.env,?_,hf.lent⟩
 ·intro b;have:=hf.mu b;simp only[bG,mZ,Xm,Xx]at this ⊢;exact this
 ·intro k b;have:=hf.new k b;simp only[bG,mZ,Xm,Xx]at this ⊢;exact this
 ·intro k k' b;have:=hf.apart k k' b;simp only[bG,mZ,Xm,Xx]at this ⊢;exact this
 ·intro k;have:=hf.chunk k;simp only[bG,mZ,Xm,Xx]at this ⊢;exact this
theorem rN {P:Program}{f sz:Nat}{pl ql:List PV}{h0 h1:List Chunk}{r:PV}(h:∀(ao:Option Addr) (cap:Nat),MSpec P f (pl++ .d (.v (.slice ao 0 cap))::ql) h0 r h1):MSpec P f (pl++ .d (.sl sz [])::ql) h0 r h1:=by
 have W9:=h none 0;have rc:∀(d d':D) (n:Nat) (pl:List PV),ai n (pl++ .d d::ql)=ai n (pl++ .d d'::ql):=by
  intro d d' n pl;induction pl with
  |nil=>simp only[Ye,ai,aj]
  |cons a pl ih=>simp only[X6,ai,ih]
 refine⟨W9.fn,W9.le,(rc _ _ _ pl).trans W9.ba,W9.bh,fun X hP hn hm' w c vs hr kg=>?_⟩;have aT:=kg.1;obtain⟨v,hv⟩:∃v,vs[pl.length]? =some v:=⟨_,Xj (by rw[←aT];simp)⟩;have hd:=kg.2 pl.length (.d (.sl sz [])) v (by simp) hv;have hd:=bS hd;have key:∀ao cap,v= .slice ao 0 cap→bj c w (pl++ .d (.v (.slice ao 0 cap))::ql) vs:=by
  rintro ao cap rfl;refine⟨by simpa using aT,fun j d x hj hx=>?_⟩;rcases Y4 j pl.length with hlt|rfl|hgt
  ·exact kg.2 j d x (by rw[X5 hlt]at hj ⊢;exact hj) hx
  ·rw[hv]at hx;cases hx;simp at hj;subst hj;exact .d _ _ (.v _)
  ·refine kg.2 j d x ?_ hx;rw[XP (by omega)]at hj ⊢;obtain⟨i,hi⟩:∃i,j - pl.length=i+1:=⟨j - pl.length - 1,by omega⟩;rw[hi]at hj ⊢;exact hj
 cases hd with
 |nil _ ao cap hm=>exact(h ao cap).run X hP hn hm' w c vs hr (key _ _ rfl)
 |sl _ _ b off cap f hM hb hc hm=>
  exact(h _ cap).run X hP hn hm' w c vs hr (key _ _ rfl)
theorem rP {P:Program}{m:Nat}{h:List Chunk}(k g E sz l:Nat)(rows:List (List PV))(hk:aw h k= .row E sz g rows)(bH:rows≠[])(hl:l≤rows.length){e':cm}{h':List Chunk}(hw:eo P 1 m [(0,.own k (g+1))] (bu h k (.row E sz (g+1) (rows.take l))) e' h'):eo P 1 m [(0,.osl k g sz 0 l)] h e' h':=
 ((Md 0 k g E sz l rows rfl hk bH hl rfl rfl).trans (tg fun t=>by
  simp only[eG];by_cases h0:t=0
  ·rw[if_pos h0,if_pos h0];exact .inr rfl
  ·rw[if_neg h0,if_neg h0];exact .inl rfl)).trans hw
structure Tg.{u}{α:Sort u}(a:α):Type where
 mk::
def qc (p:PV)(A B:Prop)(_:Tg A)(_:Tg B):Prop:=match p with| .d (.v (.bool t))=>(t=true→A)∧(t=false→B)|_=>False
def gK (g:Option Bool)(A B:Prop)(_:Tg A)(_:Tg B):Prop:=match g with|some g=>(g=true→A)∧(g=false→B)|none=>False
def Me (l:List Oper)(_:Tg l)(sm:List (List Nat × List Nat)):Prop:=(oC ⟨l⟩ sm.reverse&&oE ⟨l⟩)=true
def PY (draw:Bool)(l:List Oper)(_:Tg l)(sm:List (List Nat × List Nat))(A:Prop)(_:Tg A):Prop:=match draw with|true=>Me l ⟨⟩ sm∧A|false=>A
def A5 (ds:List (Option Nat))(e:cm)(g:Option (Nat × Bool)):Option Bool:=
 match g with
 |none=>some true
 |some (j,want)=>match ds[j]? with|some dj=>(AY dj e).map (·==some want)|none=>none
abbrev KT:=Exit→cm→List Chunk→Prop
def nK (K:KT):cm→List Chunk→Prop:=K .normal
def th (C:cm→List Chunk→Prop)(K:KT):KT
 | .normal,e,h=>C e h
 |x,e,h=>K x e h
def uk (K:KT)(_:Tg K)(x:Exit)(e:cm)(h:List Chunk):Prop:=K x e h
def O7 (P:Program)(r:SR)(dst:Option Nat)(e:cm)(h:List Chunk)(sm:List (List Nat × List Nat))(R:cm→List Chunk→List (List Nat × List Nat)→Prop)(_:Tg R):Prop:=AZ P r dst e h sm R
section
variable (P:Program)(n m:Nat)(T:Nat→Option TI)(Q:Nat→Option Nat)
def rO (draw:Bool)(ops:List Oper)(K:KT):(l:List Oper)→Tg (ops,K,l)→List (Option Nat)→cm→List Chunk→List (List Nat × List Nat)→Prop
 |[],_,_,e,h,sm=>PY draw ops ⟨⟩ sm (uk K ⟨⟩ .normal e h) ⟨⟩
 |o::l,_,ds,e,h,sm=>gK (A5 ds e o.guard) (O7 P (O6 T Q e h o) o.dst e h sm (fun e' h' sm'=>rO draw ops K l ⟨⟩ (ds++[o.dst]) e' h' sm') ⟨⟩) (rO draw ops K l ⟨⟩ (ds++[o.dst]) (fE e o.dst (.d (.v undef))) h (([],[])::sm)) ⟨⟩ ⟨⟩
def lH:Code→Bool
 | .seq a b=>lH a&&lH b
 | .block _ c=>lH c
 | .cond _ a b=>lH a&&lH b
 | .region _ ops _=>ops.toList.all (LU n)
 | .loop c=>lH c
 | .rangeFunc _ _ a b=>lH a&&lH b
 |_=>true
def Dd (c:Code)(K:KT)(_:Tg (c,K))(e:cm)(h:List Chunk):Prop:=lH n c=true→uh P n m (.loop c) K e h
def Vg (c:Code)(K:KT)(_:Tg (c,K))(e:cm)(h:List Chunk):Prop:=uh P n m c K e h
def sC:(c:Code)→(K:KT)→Tg (c,K)→cm→List Chunk→Prop
 | .seq a b,K,_,e,h=>sC a (wn (sC b K ⟨⟩) K) ⟨⟩ e h
 | .block id c,K,_,e,h=>sC c (yC id (nK K) K) ⟨⟩ e h
 | .skip,K,_,e,h=>uk K ⟨⟩ .normal e h
 | .exit i,K,_,e,h=>uk K ⟨⟩ (.exit i) e h
 | .ret,K,_,e,h=>uk K ⟨⟩ .ret e h
 | .label _,K,_,e,h=>uk K ⟨⟩ .normal e h
 | .cond c a b,K,_,e,h=>qc (du e c) (sC a K ⟨⟩ e h) (sC b K ⟨⟩ e h) ⟨⟩ ⟨⟩
 | .region _ ⟨ops⟩ draw,K,_,e,h=>m≤h.length∧rO P T Q draw ops K ops ⟨⟩ [] e h []
 | .loop c,K,_,e,h=>Dd P n m c K ⟨⟩ e h
 |c,K,_,e,h=>Vg P n m c K ⟨⟩ e h
end
theorem I0 {ds:List (Option Nat)}{full:List (Option Nat)}(hp:∃x,full=ds++x){e:cm}{o:Oper}{g:Bool}(h:A5 ds e o.guard=some g):tb full e o=some g:=by
 obtain⟨x,rfl⟩:=hp;unfold A5 at h;unfold tb;cases hg:o.guard with
 |none=>rw[hg]at h;exact h
 |some jw=>
  obtain⟨j,want⟩:=jw;rw[hg]at h;simp only at h ⊢;cases hd:ds[j]? with
  |none=>rw[hd]at h;cases h
  |some dj=>
   rw[hd]at h;have hj:=(Xo.1 hd).1;rw[XE,X5 hj,hd];exact h
theorem mA {P:Program}{n:Nat}{T:Nat→Option TI}{Q:Nat→Option Nat}{draw:Bool}{ops:List Oper}{K:KT}:∀(l:List Oper) (pre:List Oper) (e:cm) (h:List Chunk) (sm:List (List Nat × List Nat)),ops=pre++l→l.all (LU n)=true→
 rO P T Q draw ops K l ⟨⟩ (pre.map (·.dst)) e h sm→uN P n T Q draw ⟨ops⟩ (ops.map (·.dst)) l e h sm (K .normal)
 |[],pre,e,h,sm,_,_,hs=>by
  unfold rO PY at hs;unfold uN;cases draw with
  |true=>exact⟨fun _=>hs.1,hs.2⟩
  |false=>exact⟨(fun h=>(by cases h)),hs⟩
 |o::l,pre,e,h,sm,l9,hb,hs=>by
  simp only[List.all_cons,Xy]at hb;have OB:ops=(pre++[o])++l:=by rw[l9];simp
  have dI:pre.map (·.dst)++[o.dst]=(pre++[o]).map (·.dst):=by simp
  refine IR hb.1 fun R hR=>?_;unfold rO gK at hs;unfold SX;rw[dI]at hs;split at hs
  ·rename_i g hg;rw[I0 (full:=ops.map (·.dst)) ⟨(o::l).map (·.dst),by rw[l9];simp⟩ hg];cases g with
   |true=>
    have hs:=hs.1 rfl;show AZ _ _ _ _ _ _ _;unfold O7 AZ at hs;unfold AZ;split at hs
    ·exact hs
    ·obtain⟨a,b,c⟩:=hs;exact⟨a,b,hR _ _ _ (mA l _ _ _ _ OB hb.2 c)⟩
    ·rcases hs with⟨ds,r,a,b,c,d⟩|⟨ls,args,h0,r,h1,a,b,c,d,e1,f,g⟩|⟨ls,args,h0,r,a,b,c,d,e1,f,g⟩
     ·exact .inl ⟨ds,r,a,b,c,hR _ _ _ (mA l _ _ _ _ OB hb.2 d)⟩
     ·exact .inr (.inl ⟨ls,args,h0,r,h1,a,b,c,d,e1,f,hR _ _ _ (mA l _ _ _ _ OB hb.2 g)⟩)
     ·exact .inr (.inr ⟨ls,args,h0,r,a,b,c,d,e1,f,hR _ _ _ (mA l _ _ _ _ OB hb.2 g)⟩)
   |false=>exact hR _ _ _ (mA l _ _ _ _ OB hb.2 (hs.2 rfl))
  ·exact hs.elim
theorem il {P:Program}{n m:Nat}{T:Nat→Option TI}{Q:Nat→Option Nat}(bT:TabOK P T Q)(m3:P.follows .mixedOrders=true):∀(c:Code) (K:KT) (e:cm) (h:List Chunk),lH n c=true→sC P n m T Q c K ⟨⟩ e h→uh P n m c K e h
 | .seq a b,K,e,h,hb,hs=>by
  simp only[lH,Xy]at hb;refine G7 fun C hC=>?_;intro X hX hn re ac w hr;refine wp_mono (il bT m3 a _ e h hb.1 hs X hX hn re ac w hr) fun ex a' w' ⟨e',h',hk,hr'⟩=>⟨e',h',?_,hr'⟩;cases ex with
  |normal=>exact hC _ _ (il bT m3 b _ _ _ hb.2 hk)
  |_=>exact hk
 | .block id c,K,e,h,hb,hs=>by
  refine IQ fun C hC=>?_;intro X hX hn re ac w hr;refine wp_mono (il bT m3 c _ e h hb hs X hX hn re ac w hr) fun ex a' w' ⟨e',h',hk,hr'⟩=>⟨e',h',?_,hr'⟩;cases ex with
  |normal=>exact hC _ _ hk
  |exit i=>
   simp only[yC]at hk ⊢;split
   ·rename_i hi;rw[if_pos hi]at hk;exact hC _ _ hk
   ·rename_i hi;rw[if_neg hi]at hk;exact hk
  |_=>exact hk
 | .skip,K,e,h,_,hs=>LZ hs
 | .exit i,K,e,h,_,hs=>Ma hs
 | .ret,K,e,h,_,hs=>PQ hs
 | .label _,K,e,h,_,hs=>IS hs
 | .cond c a b,K,e,h,hb,hs=>by
  simp only[lH,Xy]at hb;simp only[sC,qc]at hs;split at hs
  ·rename_i t ht;exact LY ht (fun h0=>il bT m3 a _ _ _ hb.1 (hs.1 h0)) (fun h0=>il bT m3 b _ _ _ hb.2 (hs.2 h0))
  ·exact hs.elim
 | .region id ⟨ops⟩ draw,K,e,h,hb,hs=>by
  intro X hX hn re a w hr;subst hX;subst hn;subst re;exact A0 bT m3 (K:=K .normal) hs.1 (mA ops [] _ _ _ rfl hb hs.2) hr fun e' h' a' w' hk hr'=>⟨e',h',hk,hr'⟩
 | .loop c,K,e,h,hb,hs=>hs hb
 | .rangeFunc _ _ _ _,K,e,h,_,hs=>hs
 | .scope _,K,e,h,_,hs=>hs
 | .goto _,K,e,h,_,hs=>hs
 | .refuse _,K,e,h,_,hs=>hs
section
variable {P:Program}{n m:Nat}{T:Nat→Option TI}{Q:Nat→Option Nat}
theorem cf (bT:TabOK P T Q)(m3:P.follows .mixedOrders=true){c:Code}{K:Exit→cm→List Chunk→Prop}{e:cm}{h:List Chunk}(I:Nat→cm→List Chunk→Prop)(mm:Nat)(e1:cm)(h1:List Chunk)(h0:I mm e1 h1)(hw:eo P n m e h e1 h1)
 (hr:∀k e h,I k e h→∀C:cm→List Chunk→Prop,(∀k' e1 h1 e h,k' < k→I k' e1 h1→eo P n m e h e1 h1→C e h)→sC P n m T Q c (th C K) ⟨⟩ e h):Dd P n m c K ⟨⟩ e h:=
 fun hb=>CZ I mm e1 h1 h0 hw fun k e h hI C hC=>(show th C K=wn C K from funext fun x=>by cases x<;>rfl) ▸ il bT m3 c _ _ _ hb (hr k e h hI C hC)
theorem ul (bT:TabOK P T Q)(m3:P.follows .mixedOrders=true){c:Code}{K:Exit→cm→List Chunk→Prop}{e:cm}{h:List Chunk}(N:Nat)(I:Nat→Prop)(E:Nat→cm)(H:Nat→List Chunk)(h0:I 0)(hw:eo P n m e h (E 0) (H 0))
 (hr:∀k,k < N→I k→∀C:cm→List Chunk→Prop,(∀e h,I (k+1)→eo P n m e h (E (k+1)) (H (k+1))→C e h)→sC P n m T Q c (th C K) ⟨⟩ (E k) (H k))
 (he:I N→∀C:cm→List Chunk→Prop,sC P n m T Q c (th C K) ⟨⟩ (E N) (H N)):Dd P n m c K ⟨⟩ e h:=by
 refine cf bT m3 (fun j e h=>∃k,k≤N∧j=N - k∧I k∧e=E k∧h=H k) N (E 0) (H 0) ⟨0,XL _,rfl,h0,rfl,rfl⟩ hw ?_;rintro j e h ⟨k,hk,rfl,hI,rfl,rfl⟩ C hC;rcases XO k N with hlt|hge
 ·exact hr k hlt hI C fun e h hI' hw'=>hC _ _ _ e h (by omega) ⟨k+1,hlt,rfl,hI',rfl,rfl⟩ hw'
 ·obtain rfl:k=N:=by omega
  exact he hI C
theorem br (bT:TabOK P T Q)(m3:P.follows .mixedOrders=true){c:Code}{K:Exit→cm→List Chunk→Prop}{e:cm}{h:List Chunk}{α:Type}(l:List α)(I:Nat→Prop)(E:Nat→cm)(H:Nat→List Chunk)(h0:I 0)(hw:eo P n m e h (E 0) (H 0))
 (hr:∀k x,l[k]? =some x→k < l.length→I k→∀C:cm→List Chunk→Prop,(∀e h,I (k+1)→eo P n m e h (E (k+1)) (H (k+1))→C e h)→sC P n m T Q c (th C K) ⟨⟩ (E k) (H k))
 (he:I l.length→∀C:cm→List Chunk→Prop,sC P n m T Q c (th C K) ⟨⟩ (E l.length) (H l.length)):Dd P n m c K ⟨⟩ e h:=
 ul bT m3 l.length I E H h0 hw (fun k hk hI=>hr k l[k] (Xj hk) hk hI) he
end
section
variable {P:Program}{n m:Nat}{T:Nat→Option TI}{Q:Nat→Option Nat}{A B:Prop}{s:Tg A}{t:Tg B}
theorem a0a:gK (some true) A B s t=A:=by simp[gK]
theorem a0b:gK (some false) A B s t=B:=by simp[gK]
theorem dO {b:Bool}(h1:b=true→A)(h2:b=false→B):gK (some b) A B s t:=⟨h1,h2⟩
theorem PZ:qc (.d (.v (.bool true))) A B s t=A:=by simp[qc]
theorem P0:qc (.d (.v (.bool false))) A B s t=B:=by simp[qc]
theorem aN {b:Bool}(h1:b=true→A)(h2:b=false→B):qc (.d (.v (.bool b))) A B s t:=⟨h1,h2⟩
theorem Vh (b:Bool):(some b==some true)=b:=by cases b<;>rfl
theorem Vi (b:Bool):(some b==some false)=!b:=by cases b<;>rfl
theorem a0c {b:Bool}:gK (some (!b)) A B s t=gK (some b) B A t s:=by
 cases b<;>simp[gK]
theorem P1 {b:Bool}:qc (.d (.v (.bool (!b)))) A B s t=qc (.d (.v (.bool b))) B A t s:=by
 cases b<;>simp[qc]
theorem S1 (a b:PV):rG (.d (.v (.bool true))) a b= .res a [] [] True:=by
 simp only[rG];split<;>rfl
theorem S2 (a b:PV):rG (.d (.v (.bool false))) a b= .res b [] [] True:=by
 simp only[rG];split<;>rfl
theorem S3 (t p q:Bool):rG (.d (.v (.bool t))) (.d (.v (.bool p))) (.d (.v (.bool q)))= .res (.d (.v (.bool (bif t then p else q)))) [] [] True:=rfl
theorem S4 (l:List Oper)(u:Tg l)(sm:List (List Nat × List Nat)):PY false l u sm A s=A:=rfl
theorem S5 (l:List Oper)(u:Tg l)(sm:List (List Nat × List Nat)):PY true l u sm A s=(Me l u sm∧A):=rfl
theorem cg {l:List Oper}{u:Tg l}{sm:List (List Nat × List Nat)}(h:(oC ⟨l⟩ sm.reverse&&oE ⟨l⟩)=true):Me l u sm:=h
theorem P2 {p:PV}{eff:List (Nat × Chunk)}{touch:List Nat}{side:Prop}{dst:Option Nat}{e:cm}{h:List Chunk}{sm:List (List Nat × List Nat)}{R:cm→List Chunk→List (List Nat × List Nat)→Prop}{u:Tg R}:
 O7 P (.res p eff touch side) dst e h sm R u=(side∧(eff.all fun kc=>decide (kc.1≤h.length))=true∧R (fE e dst p) (qF eff h) ((eff.map (·.1),touch)::sm)):=rfl
theorem Vj {dst:Option Nat}{e:cm}{h:List Chunk}{sm:List (List Nat × List Nat)}{R:cm→List Chunk→List (List Nat × List Nat)→Prop}{u:Tg R}{g:Nat}{ps:List PV}{ds:List D}{r:D}{tl:List Nat}(hv:U8 (aw h) ps=some ds)(hp:ae P g ds r)(ht:SW (aw h) ps=tl)(hf:tl=[]∨r.flat=true)(hR:R (fE e dst (.d r)) h (([],tl)::sm)):O7 P (.call g ps) dst e h sm R u:=by
 subst ht;exact SY hv hp hf hR
def Mf (P:Program)(g:Nat)(ds:List D)(tl:List Nat)(dst:Option Nat)(e:cm)(h:List Chunk)(sm:List (List Nat × List Nat))(R:cm→List Chunk→List (List Nat × List Nat)→Prop)(_:Tg R):Prop:=
 ∃r,ae P g ds r∧(tl=[]∨r.flat=true)∧R (fE e dst (.d r)) h (([],tl)::sm)
def Mg (P:Program)(g:Nat)(ds:Option (List D))(tl:List Nat)(dst:Option Nat)(e:cm)(h:List Chunk)(sm:List (List Nat × List Nat))(R:cm→List Chunk→List (List Nat × List Nat)→Prop)(u:Tg R):Prop:=
 match ds with
 |some ds=>Mf P g ds tl dst e h sm R u
 |none=>False
theorem ci {dst:Option Nat}{e:cm}{h:List Chunk}{sm:List (List Nat × List Nat)}{R:cm→List Chunk→List (List Nat × List Nat)→Prop}{u:Tg R}{g:Nat}{ps:List PV}(hv:Mg P g (U8 (aw h) ps) (SW (aw h) ps) dst e h sm R u):O7 P (.call g ps) dst e h sm R u:=by
 unfold Mg at hv;split at hv
 ·rename_i ds hd;obtain⟨r,hp,hf,hR⟩:=hv;exact Vj hd hp rfl hf hR
 ·exact hv.elim
theorem aO {g:Nat}{ds ds':List D}{tl:List Nat}{dst:Option Nat}{e:cm}{h:List Chunk}{sm:List (List Nat × List Nat)}{R:cm→List Chunk→List (List Nat × List Nat)→Prop}{u:Tg R}{r:D}(hp:ae P g ds' r)(hd:tf ds ds')(hf:tl=[]∨r.flat=true)(hR:R (fE e dst (.d r)) h (([],tl)::sm)):Mf P g ds tl dst e h sm R u:=⟨r,hp.args hd,hf,hR⟩
theorem aP {g:Nat}{ds:List D}{tl:List Nat}{dst:Option Nat}{e:cm}{h:List Chunk}{sm:List (List Nat × List Nat)}{R:cm→List Chunk→List (List Nat × List Nat)→Prop}{u:Tg R}{r:D}(hp:ae P g ds r)(hf:tl=[]∨r.flat=true)(hR:R (fE e dst (.d r)) h (([],tl)::sm)):Mf P g ds tl dst e h sm R u:=⟨r,hp,hf,hR⟩
theorem eN (ls:List Nat){dst:Option Nat}{e:cm}{h:List Chunk}{sm:List (List Nat × List Nat)}{R:cm→List Chunk→List (List Nat × List Nat)→Prop}{u:Tg R}{g:Nat}{ps args:List PV}{h0 h1:List Chunk}{r:PV}(hM:MSpec P g args h0 r h1)(kg:ps=ig (eh ls h.length) args)(hl:ls.length=h0.length)(lw:ls.Nodup)(hlt:∀k∈ls,k < h.length)(iE:aZ (aw h) (eh ls h.length) 0 h0)
 (hR:R (fE e dst (ren (eh ls h.length) r)) (gJ (eh ls h.length) 0 h1 h) ((qG ls h.length h1.length,qG ls h.length h1.length)::sm)):O7 P (.call g ps) dst e h sm R u:=SZ ls hM kg hl lw hlt iE hR
theorem Vk (ls:List Nat){dst:Option Nat}{e:cm}{h:List Chunk}{sm:List (List Nat × List Nat)}{R:cm→List Chunk→List (List Nat × List Nat)→Prop}{u:Tg R}{g:Nat}{ps args:List PV}{h0:List Chunk}{r:PV}(hM:MSpec P g args h0 r h0)(kg:ps=ig (eh ls h.length) args)(hl:ls.length=h0.length)(lw:ls.Nodup)(hlt:∀k∈ls,k < h.length)(iE:aZ (aw h) (eh ls h.length) 0 h0)
 (hR:R (fE e dst (ren (eh ls h.length) r)) h (([],qG ls h.length h0.length)::sm)):O7 P (.call g ps) dst e h sm R u:= .inr (.inr ⟨ls,args,h0,r,hM,kg,hl,lw,hlt,iE,hR⟩)
variable {K K1:KT}{C:cm→List Chunk→Prop}{e:cm}{h:List Chunk}{b:Code}{i id:Nat}
theorem I1 {u:Tg (wn (sC P n m T Q b K ⟨⟩) K1)}:uk (wn (sC P n m T Q b K ⟨⟩) K1) u .normal e h=sC P n m T Q b K ⟨⟩ e h:=rfl
theorem I2 {u:Tg (wn C K1)}:uk (wn C K1) u (.exit i) e h=uk K1 ⟨⟩ (.exit i) e h:=rfl
theorem I3 {u:Tg (wn C K1)}:uk (wn C K1) u .ret e h=uk K1 ⟨⟩ .ret e h:=rfl
theorem I4 {u:Tg (th C K1)}:uk (th C K1) u .normal e h=C e h:=rfl
theorem I5 {u:Tg (th C K1)}:uk (th C K1) u (.exit i) e h=uk K1 ⟨⟩ (.exit i) e h:=rfl
theorem I6 {u:Tg (th C K1)}:uk (th C K1) u .ret e h=uk K1 ⟨⟩ .ret e h:=rfl
theorem I7 {u:Tg (yC id (nK K) K1)}:uk (yC id (nK K) K1) u .normal e h=uk K ⟨⟩ .normal e h:=rfl
theorem I8 {u:Tg (yC id (nK K) K1)}:uk (yC id (nK K) K1) u .ret e h=uk K1 ⟨⟩ .ret e h:=rfl
theorem I9 {u:Tg (yC id (nK K) K1)}:uk (yC id (nK K) K1) u (.exit i) e h=if i=id then uk K ⟨⟩ .normal e h else uk K1 ⟨⟩ (.exit i) e h:=rfl
def Mh (T:Nat→Option TI)(rs:List ResultVar)(r:D)(e:cm)(h:List Chunk):Prop:=
 match qb T e h rs with
 |some ps=>match vw (aw h) (yz ps)with
  |some d=>ap d r
  |none=>False
 |none=>False
theorem Hf {rs:List ResultVar}{r:D}{x:Exit}(hx:x= .normal∨x= .ret):rL T rs r x e h=Mh T rs r e h:=by
 apply propext;unfold rL Mh;constructor
 ·rintro⟨-,ps,d,h1,h2,h3⟩;rw[h1];simp only[h2];exact h3
 ·intro h1;refine⟨hx,?_⟩;split at h1
  ·rename_i ps hp;split at h1
   ·rename_i d hd;exact⟨ps,d,hp,hd,h1⟩
   ·exact h1.elim
  ·exact h1.elim
def Mi (P:Program)(m:Nat)(T:Nat→Option TI)(rs:List ResultVar)(r:PV)(h1:List Chunk)(e:cm)(h:List Chunk):Prop:=
 match qb T e h rs with
 |some ps=>eo P 1 m [(0,yz ps)] h [(0,r)] h1
 |none=>False
theorem Hg {rs:List ResultVar}{r:PV}{h1:List Chunk}{x:Exit}(hx:x= .normal∨x= .ret):yA P m T rs r h1 x e h=Mi P m T rs r h1 e h:=by
 apply propext;unfold yA Mi;constructor
 ·rintro⟨-,ps,h2,h3⟩;rw[h2];exact h3
 ·intro h2;refine⟨hx,?_⟩;split at h2
  ·rename_i ps hp;exact⟨ps,hp,h2⟩
  ·exact h2.elim
theorem De {rs:List ResultVar}{r:D}{u:Tg (rL T rs r)}:uk (rL T rs r) u .normal e h=Mh T rs r e h:=Hf (.inl rfl)
theorem Df {rs:List ResultVar}{r:D}{u:Tg (rL T rs r)}:uk (rL T rs r) u .ret e h=Mh T rs r e h:=Hf (.inr rfl)
theorem FE {rs:List ResultVar}{r:PV}{h1:List Chunk}{u:Tg (yA P m T rs r h1)}:uk (yA P m T rs r h1) u .normal e h=Mi P m T rs r h1 e h:=Hg (.inl rfl)
theorem FF {rs:List ResultVar}{r:PV}{h1:List Chunk}{u:Tg (yA P m T rs r h1)}:uk (yA P m T rs r h1) u .ret e h=Mi P m T rs r h1 e h:=Hg (.inr rfl)
end
def FG (fn:Func)(nt:Nat)(c:Code)(k:Nat):Bool:=!(fn.name== "runtime.NumGoroutine")&&lH nt c&&decide (k≤nt)
theorem a0d {P:Program}{f:Nat}{fn:Func}{c:Code}{T:Nat→Option TI}{Q:Nat→Option Nat}{nt:Nat}{rs:Array ResultVar}(bT:TabOK P T Q)(m3:P.follows .mixedOrders=true)(hf:P.funcs[f]? =some fn)(hb:fn.body=some c)(hn:fn.ntmps=nt)(hr:fn.results=rs){ds:List D}{r:D}(hc:FG fn nt c ds.length=true)
 (hp:sC P nt 0 T Q c (rL T rs.toList r) ⟨⟩ (qH (ds.map .d) 0) []):ae P f ds r:=by
 subst hn;subst hr;simp only[FG,Xy,ZV,decide_eq_true_eq]at hc;exact CX bT hf hb (bU hf hc.1.1 hb) hc.2 (il bT m3 _ _ _ _ hc.1.2 hp)
theorem im {P:Program}{f:Nat}{fn:Func}{c:Code}{T:Nat→Option TI}{Q:Nat→Option Nat}{nt:Nat}{rs:Array ResultVar}(bT:TabOK P T Q)(m3:P.follows .mixedOrders=true)(hf:P.funcs[f]? =some fn)(hb:fn.body=some c)(hn:fn.ntmps=nt)(hr:fn.results=rs){args:List PV}{h0 h1:List Chunk}{r:PV}(hc:FG fn nt c args.length=true)
 (hle:h0.length≤h1.length) (BR:ai h0.length args=true) (hbh:az h0.length h0=true)
 (hp:sC P nt h0.length T Q c (yA P h0.length T rs.toList r h1) ⟨⟩ (qH args 0) h0):MSpec P f args h0 r h1:=by
 subst hn;subst hr;simp only[FG,Xy,ZV,decide_eq_true_eq]at hc;exact CY bT hf hb (bU hf hc.1.1 hb) hc.2 hle BR hbh (il bT m3 _ _ _ _ hc.1.2 hp)
theorem Mk {α:Type}(l:List α):av l 0 []=l:=by simp[av]
theorem Ml {α:Type}(a x:α)(l xs:List α):av (a::l) 0 (x::xs)=x::av l 0 xs:=by simp[av]
theorem P3 {α:Type}(a:α)(n:Nat)(l xs:List α):av (a::l) (n+1) xs=a::av l n xs:=by simp only[av,ZI,X6,Nat.add_right_comm n 1,List.drop_succ_cons]
attribute [go_sem] qH
attribute [go_sem] a0a a0b PZ P0 S4 S5 P2 I1 I2 I3 I4 I5 I6 I7 I8 I9 De Df FE FF Mh Mi qb G5 yz vw aS cA cZ vj d6 nd S1 S2 S3 Mg U8 SW tc iI cO yu AS nf Lw Vh Vi a0c P1 A5 sC rO
attribute [go_sem] U9 Va Vb Vc Vd Ve O6 du eG fE qF bu aw U7 LC LF LD AK vX CJ vY vZ oK zB s5 wa wb LG CM CP LH LI wd we GZ G0 wc oL rH wg wh s6 Ft CQ yB LX zn cN PV.one D.one Value.oneCell' vM p7 p8 Mk Ml P3 AY sS Lj UL CK Pz j0 gJ eh ren ig jn lA qG kn aC aW Fw vW Lx IntKind.bits
attribute [go_sem] cond_true cond_false Xm Xx XD X8 List.all_cons List.all_nil ZI YA List.drop_succ_cons List.drop_zero List.take_nil List.drop_nil X6 Ye Ya XT List.reverse_cons List.reverse_nil List.getElem?_cons_zero YJ List.getElem?_nil List.getElem?_toArray XA Yg Zi Yy Option.getD_none YW Option.bind_none XK X0 decide_true decide_false Yz YC Bool.and_false Bool.false_and Yn Bool.not_true Bool.not_false Bool.true_eq_false YY beq_self_eq_true ne_eq not_true_eq_false not_false_eq_true and_true true_and and_self or_self or_false false_or or_true true_or eq_self forall_const false_implies implies_true Int.toNat_natCast Int.natCast_nonneg Nat.lt_irrefl XC XF Xt XX.injEq Prod.mk.injEq YT XL ZM Nat.lt_add_one List.getD_cons_zero List.getD_cons_succ List.getD_nil P' List.range_zero A' Xv Xw
section
mutual
theorem Mm:∀p:PV,ren (fun j=>j) p=p
 | .d x=>rfl
 | .any=>rfl
 | .ptr k off=>rfl
 | .own k g=>rfl
 | .rp k g sz i j=>rfl
 | .osl k g sz a n=>rfl
 | .clo g caps=>by simp only[ren,nm caps]
 | .agg l=>by simp only[ren,nm l]
 | .tup l=>by simp only[ren,nm l]
 | .mref k=>rfl
theorem nm:∀l:List PV,ig (fun j=>j) l=l
 |[]=>rfl
 |p::l=>by simp only[ig,Mm p,nm l]
end
theorem Hh:∀l:List (List PV),jn (fun j=>j) l=l
 |[]=>rfl
 |p::l=>by simp only[jn,nm p,Hh l]
theorem A6 (c:Chunk):lA (fun j=>j) c=c:=by cases c<;>simp only[lA,nm,Hh]
theorem Ja (n:Nat):eh (X3 n) n=fun j=>j:=by
 funext j;rcases XO j n with h|h
 ·have:=ng (ls:=X3 n) (nk:=n) (j:=j) (by simpa using h);rw[Z2 h]at this;exact(XX.inj this).symm
 ·have:=jZ (X3 n) n (j - n);rw[List.length_range]at this;rw[show n+(j - n)=j by omega]at this;exact this
theorem mB (a:List Chunk)(c d:Chunk)(b:List Chunk):bu (a++c::b) a.length d=a++d::b:=by
 induction a with
 |nil=>rfl
 |cons x a ih=>simp only[X6,XD,bu,ih]
@[go_sem] theorem kq (a:List Chunk)(d:Chunk):bu a a.length d=a++[d]:=by
 induction a with
 |nil=>rfl
 |cons x a ih=>simp only[X6,XD,bu,ih]
theorem wv:∀(l pre rest:List Chunk),rest.length≤l.length→gJ (fun j=>j) pre.length l (pre++rest)=pre++l
 |[],pre,rest,h=>by
  have:rest=[]:=XZ (by simpa using h);subst this;simp[gJ]
 |c::l,pre,[],h=>by
  simp only[gJ,Ya,A6,kq];have:=wv l (pre++[c]) [] (by simp);simpa using this
 |c::l,pre,r::rest,h=>by
  simp only[gJ,A6,mB];have:=wv l (pre++[c]) rest (by simpa using h);simpa using this
theorem zI:∀(l pre:List Chunk),aZ (aw (pre++l)) (fun j=>j) pre.length l
 |[],_=>trivial
 |c::l,pre=>by
  refine⟨?_,?_⟩
  ·rw[A6];induction pre with
   |nil=>rfl
   |cons a pre ih=>exact ih
  ·have:=zI l (pre++[c]);simpa using this
section
variable {P:Program}{n m:Nat}{T:Nat→Option TI}{Q:Nat→Option Nat}
theorem Mn {dst:Option Nat}{e:cm}{h:List Chunk}{sm:List (List Nat × List Nat)}{R:cm→List Chunk→List (List Nat × List Nat)→Prop}{u:Tg R}{g:Nat}{ps:List PV}{h1:List Chunk}{r:PV}(hM:MSpec P g ps h r h1)
 (hR:R (fE e dst r) h1 ((X3 h1.length,X3 h1.length)::sm)):O7 P (.call g ps) dst e h sm R u:=by
 have hid:=Ja h.length;have hle:=hM.le;refine eN (X3 h.length) hM (by rw[hid,nm]) (by simp) List.nodup_range (fun k hk=>by simpa using hk) (by rw[hid];exact zI h []) ?_;have hh:gJ (fun j=>j) 0 h1 h=h1:=wv h1 [] h hle;have hm:qG (X3 h.length) h.length h1.length=X3 h1.length:=by
  unfold qG;rw[hid];simp
 rw[hid,Mm,hh,hm];exact hR
end
theorem FH (l:List (List D))(n:Nat):(ab l).take n=ab (l.take n):=by simp[ab]
theorem Jb {α:Type}(l:List α)(i j k:Nat)(z:α)(hi:i < l.length)(hj:j=i+1)(hk:k=i+(l.length - j)):(av (av l i ((l.drop j).take (l.length - j))) k [z]).take k=l.eraseIdx i:=by
 subst hj;subst hk;have h1:(l.drop (i+1)).take (l.length - (i+1))=l.drop (i+1):=XI (by rw[XS];omega);rw[h1,Z1];have h2:(av l i (l.drop (i+1))).take (i+(l.length - (i+1)))=l.take i++l.drop (i+1):=by
  unfold av;rw[Yp (by simp;omega),XI (by simp;omega)]
 rw[←h2];have h3:i+(l.length - (i+1))≤(av l i (l.drop (i+1))).length:=by rw[aR (by rw[XS];omega)];omega
 generalize av l i (l.drop (i+1))=l' at h3 ⊢;unfold av;rw[XT,Yp (by rw[Xp];omega),List.take_take,z']
theorem kr {α β:Type}(f:α→β)(l:List α)(i:Nat):(l.eraseIdx i).map f=(l.map f).eraseIdx i:=by
 rw[Z1,Z1,Xz,Zz,List.map_drop]
theorem pB {α:Type}(l:List α)(i j n:Nat)(hi:i < l.length)(hj:j=i+1)(hn:n=l.length):(av l i ((l.drop j).take (n - j))).length=l.length:=by
 rw[aR];rw[Xp,XS];omega
theorem oR {P:Program}{E sz g i j n:Nat}{L:List (List D)}{z:List PV}(hi:i < L.length)(hj:j=i+1)(hn:n=L.length):
 eo P 1 1 [(0,.osl 0 g sz 0 (i+(n - j)))] [.row E sz g (av (av (ab L) i (((ab L).drop j).take (n - j))) (i+(n - j)) (XR 1 z))] [(0,.own 0 (g+1))] [.row E sz (g+1) (ab (L.eraseIdx i))]:=by
 have hl:(ab L).length=L.length:=aC L;have h1:=pB (ab L) i j n (by omega) hj (by omega);have h2:(av (av (ab L) i (((ab L).drop j).take (n - j))) (i+(n - j)) (XR 1 z)).length=L.length:=by rw[aR (by simp;omega)];omega
 refine rP 0 g E sz _ _ rfl (fun h=>by rw[h]at h2;simp at h2;omega) (by omega) (aV rfl ?_);have:=Jb (ab L) i j (i+(n - j)) z (by omega) hj (by omega);simp only[bu,List.replicate_one];rw[hn]at this ⊢;rw[hl]at this;rw[this];unfold ab;rw[kr]
def cp {α:Type}(p:α→Bool)(l:List α)(j:Nat):List α:=(l.take j).filter fun x=>!p x
def gn {α:Type}(p:α→Bool)(l:List α)(j:Nat):List α:=cp p l j++l.drop (cp p l j).length
theorem vm {α:Type}(p:α→Bool)(l:List α)(j:Nat):(cp p l j).length≤j∧(cp p l j).length≤l.length:=by
 have h1:=Zw (fun x=>!p x) (l.take j);rw[Xp]at h1;unfold cp;omega
theorem Hi {α:Type}(p:α→Bool)(l:List α)(j:Nat):(gn p l j).length=l.length:=by
 have:=vm p l j;unfold gn;rw[Xt,XS];omega
theorem Hj {α:Type}(p:α→Bool)(l:List α)(j i:Nat)(h:(cp p l j).length≤i):(gn p l j)[i]? =l[i]? :=by
 unfold gn;rw[XP h,Yk];congr 1;omega
theorem tj {α:Type}{p:α→Bool}{l:List α}{j:Nat}{x:α}(hx:l[j]? =some x):cp p l (j+1)=cp p l j++if p x then []else [x]:=by
 unfold cp;rw[List.take_add_one,hx,ZN];cases h:p x<;>simp[h]
theorem R8 {α:Type}{p:α→Bool}{l:List α}{j:Nat}{x:α}(hx:l[j]? =some x)(hp:p x=true):cp p l (j+1)=cp p l j∧gn p l (j+1)=gn p l j:=by
 have h1:cp p l (j+1)=cp p l j:=by rw[tj hx,hp];simp
 exact⟨h1,by unfold gn;rw[h1]⟩
theorem R9 {α:Type}{p:α→Bool}{l:List α}{j:Nat}{x:α}(hx:l[j]? =some x)(hp:p x=false):(cp p l (j+1)).length=(cp p l j).length+1∧gn p l (j+1)=(gn p l j).set (cp p l j).length x:=by
 have h1:cp p l (j+1)=cp p l j++[x]:=by rw[tj hx,hp];simp
 have hj:=(Xo.1 hx).1;have hk:=vm p l j;refine⟨by rw[h1];simp,?_⟩;unfold gn;rw[h1];obtain⟨y,hy⟩:∃y,l[(cp p l j).length]? =some y:=⟨_,Xj (by omega)⟩;have hd:l.drop (cp p l j).length=y::l.drop ((cp p l j).length+1):=by
  obtain⟨hlt,rfl⟩:=Xo.1 hy;exact YV hlt
 rw[hd,Zc _ _ (XC _),Y8,Xv];simp
theorem zJ {α:Type}{p:α→Bool}{l:List α}{i:Nat}(h:l.findIdx? p=some i):i < l.length∧(cp p l (i+1)).length=i∧gn p l (i+1)=l:=by
 obtain⟨hi,hp,cB⟩:=XV.1 h;have h1:cp p l (i+1)=l.take i:=by
  rw[tj (Xj hi),hp];simp only[if_true,Ya];unfold cp;refine List.filter_eq_self.2 fun x hx=>?_;obtain⟨q,hq,rfl⟩:=Yf.1 hx;rw[Xp]at hq;have:=cB q (by omega);simp only[ZX];simpa using this
 have h2:(cp p l (i+1)).length=i:=by rw[h1,Xp];omega
 refine⟨hi,h2,?_⟩;unfold gn;rw[h2,h1,YU]
theorem P4 {α:Type}(p:α→Bool)(l:List α):cp p l l.length=l.filter fun x=>!p x:=by
 unfold cp;(try rw[Xq])
theorem cL {α:Type}(enc:α→List D)(l:List α)(i:Nat)(x:α):(ab (l.map enc)).set i ((enc x).map .d)=ab ((l.set i x).map enc):=by
 simp only[ab,List.map_set]
structure HpOK (h:List Chunk)(k:Nat):Prop where
 a:∀c,aw (bu h k c) k=c
 b:∀c,(bu h k c).length=h.length
 c:∀c b,aw (bu h k c++[b]) k=c
 d:∀c b,aw (bu h k c++[b]) h.length=b
 e:∀c b,bu (bu h k c) h.length b=bu h k c++[b]
 f:∀c b c',bu (bu h k c++[b]) k c'=bu h k c'++[b]
 g:∀c b b',bu (bu h k c++[b]) h.length b'=bu h k c++[b']
 i:∀c c',bu (bu h k c) k c'=bu h k c'
theorem tm:∀(h:List Chunk) (k:Nat) (c c':Chunk),k < h.length→bu (bu h k c) k c'=bu h k c'
 |a::l,0,c,c',_=>rfl
 |a::l,k+1,c,c',h=>by simp only[bu,tm l k c c' (by simpa using h)]
theorem zK:∀(h b:List Chunk) (k:Nat) (c:Chunk),k < h.length→bu (h++b) k c=bu h k c++b
 |a::l,b,0,c,_=>rfl
 |a::l,b,k+1,c,h=>by simp only[X6,bu,zK l b k c (by simpa using h)]
theorem S6 {h:List Chunk}{k:Nat}(hk:k < h.length):HpOK h k:=by
 have hb:∀c,(bu h k c).length=h.length:=fun c=>rK hk;have ha:∀c,aw (bu h k c) k=c:=fun c=>by rw[fO (G' hk),if_pos rfl]
 refine⟨ha,hb,fun c b=>by rw[pz _ _ _ (by rw[hb];exact hk),ha],fun c b=>by rw[jo,hb,if_pos rfl],fun c b=>?_,fun c b c'=>?_,fun c b b'=>?_,fun c c'=>tm h k c c' hk⟩
 ·have:=kq (bu h k c) b;rwa [hb]at this
 ·rw[zK _ _ _ _ (by rw[hb];exact hk),tm h k c c' hk]
 ·have:=mB (bu h k c) b b' [];rwa [hb]at this
theorem tn:∀(h:List Chunk) (k:Nat) (c:Chunk),aw h k=c→k < h.length→bu h k c=h
 |a::l,0,c,e,_=>by subst e;rfl
 |a::l,k+1,c,e,h=>by simp only[bu,tn l k c e (by simpa using h)]
theorem fF (n:Nat):∀(h:List Chunk) (k:Nat) (c:Chunk),az n h=true→aH n c=true→k < h.length→az n (bu h k c)=true
 |a::l,0,c,h1,h2,_=>by simp only[az,Xy]at h1;simp only[bu,az,h1.2,h2,Yn]
 |a::l,k+1,c,h1,h2,h3=>by
  simp only[az,Xy]at h1;simp only[bu,az,h1.1,fF n l k c h1.2 h2 (by simpa using h3),Yn]
theorem Dg {α:Type}(l xs:List α)(n:Nat)(h:n≤l.length):(av l n xs).take n=l.take n:=by
 unfold av;rw[XT,Yp (by rw[Xp];omega),List.take_take,z']
theorem zL {α:Type}(p:α→Bool)(l:List α):(gn p l l.length).take (cp p l l.length).length=l.filter fun x=>!p x:=by
 unfold gn;rw[Yp (XC _),Xq,P4]
theorem zM {P:Program}{E sz g k K n:Nat}{h:List Chunk}{L:List (List D)}{z:List PV}(hk:k < h.length)(hK:K≤L.length)(h0:L≠[])(hn:n=L.length):
 eo P 1 h.length [(0,.osl k g sz 0 (K - 0))] (bu h k (.row E sz g (av (ab L) K (XR (n - K) z)))) [(0,.own k (g+1))] (bu h k (.row E sz (g+1) (ab (L.take K)))):=by
 obtain⟨ga,gb,gc,gd,ge,gf,gg,gi⟩:=S6 hk;have hl:(ab L).length=L.length:=aC L;have hs:(av (ab L) K (XR (n - K) z)).length=L.length:=by rw[aR (by simp;omega)];exact hl
 have hp:0 < L.length:=Zh.2 h0;refine rP k g E sz _ _ (ga _) (fun e=>by rw[e]at hs;simp at hs;omega) (by omega) (aV rfl ?_);rw[gi,Yr,Dg _ _ _ (by omega),FH]
theorem bg (k g:Nat)(d:D):∀(l m:List (List PV)),iV k g d (l++m)=iV k g d l++iV k g d m
 |[],m=>rfl
 |r::l,m=>by simp only[X6,iV,bg k g d l m]
def ple (p q:PV):Prop:=p=q∨∃d d',p= .d d∧q= .d d'∧ap d d'
def uP:List PV→List PV→Prop
 |[],[]=>True
 |p::l,q::m=>ple p q∧uP l m
 |_,_=>False
theorem rQ {c:Cx}{w:World}:∀{l m:List PV}{vs:List Value},uP l m→bj c w l vs→bj c w m vs
 |[],[],vs,_,h=>h
 |[],_::_,vs,h,_=>h.elim
 |_::_,[],vs,h,_=>h.elim
 |p::l,q::m,[],_,h=>by have:=h.1;simp at this
 |p::l,q::m,v::vs,⟨h1,h2⟩,h=>by
  have h3:=rQ (vs:=vs) h2 ⟨by simpa using h.1,fun j d x hj hx=>h.2 (j+1) d x (by simpa using hj) (by simpa using hx)⟩;refine⟨by simpa using h3.1,fun j d x hj hx=>?_⟩;cases j with
  |zero=>
   simp at hj hx;subst hj;subst hx;have h0:=h.2 0 p v rfl rfl;rcases h1 with rfl|⟨d,d',rfl,rfl,hle⟩
   ·exact h0
   ·exact .d _ _ (hle _ _ _ (bS h0))
  |succ j=>exact h3.2 j d x (by simpa using hj) (by simpa using hx)
theorem MSpec.lep {P:Program}{f:Nat}{args args':List PV}{h0 h1:List Chunk}{r:PV}(h:MSpec P f args h0 r h1)(hp:uP args' args)(hb:ai h0.length args'=true):MSpec P f args' h0 r h1:=
 ⟨h.fn,h.le,hb,h.bh,fun X hP hn hm w c vs hr kg=>h.run X hP hn hm w c vs hr (rQ hp kg)⟩
theorem Dh {P:Program}{f:Nat}{fn:Func}{c:Code}{T:Nat→Option TI}{Q:Nat→Option Nat}{nt:Nat}{rs:Array ResultVar}(bT:TabOK P T Q)(m3:P.follows .mixedOrders=true)(hf:P.funcs[f]? =some fn)(hb:fn.body=some c)(hn:fn.ntmps=nt)(hr:fn.results=rs){args:List PV}{h0 h1:List Chunk}{r:PV}(hc:FG fn nt c args.length=true)
 (hle:h0.length≤h1.length) (BR:ai h0.length args=true) (hbh:az h0.length h0=true)
 (hp:sC P nt h0.length T Q c (yA P h0.length T rs.toList r h1) ⟨⟩ (qH args 0) h0):MSpec P f args h0 r h1:=im bT m3 hf hb hn hr hc hle BR hbh hp
end
structure Hd (Q:Prop):Prop where
 out:Q
structure Or1 (Q:Prop):Prop where
 mk::
structure Ln (ls:List Nat)(P:Program)(g:Nat)(args:List PV)(h0:List Chunk)(r:PV)(h1:List Chunk):Prop where
 out:MSpec P g args h0 r h1
structure Lr (ls:List Nat)(P:Program)(g:Nat)(args:List PV)(h0:List Chunk)(r:PV):Prop where
 out:MSpec P g args h0 r h0
theorem tq {P:Program}{ls:List Nat}{dst:Option Nat}{e:cm}{h:List Chunk}{sm:List (List Nat × List Nat)}{R:cm→List Chunk→List (List Nat × List Nat)→Prop}{u:Tg R}{g:Nat}{ps args:List PV}{h0:List Chunk}{r:PV}(hL:Lr ls P g args h0 r)(kg:ps=ig (eh ls h.length) args)(hl:ls.length=h0.length)(lw:ls.Nodup)(hlt:∀k∈ls,k < h.length)(iE:aZ (aw h) (eh ls h.length) 0 h0)
 (hR:R (fE e dst (ren (eh ls h.length) r)) h (([],qG ls h.length h0.length)::sm)):O7 P (.call g ps) dst e h sm R u:=Vk ls hL.out kg hl lw hlt iE hR
theorem um {P:Program}{ls:List Nat}{dst:Option Nat}{e:cm}{h:List Chunk}{sm:List (List Nat × List Nat)}{R:cm→List Chunk→List (List Nat × List Nat)→Prop}{u:Tg R}{g:Nat}{ps args:List PV}{h0 h1:List Chunk}{r:PV}(hL:Ln ls P g args h0 r h1)(kg:ps=ig (eh ls h.length) args)(hl:ls.length=h0.length)(lw:ls.Nodup)(hlt:∀k∈ls,k < h.length)(iE:aZ (aw h) (eh ls h.length) 0 h0)
 (hR:R (fE e dst (ren (eh ls h.length) r)) (gJ (eh ls h.length) 0 h1 h) ((qG ls h.length h1.length,qG ls h.length h1.length)::sm)):O7 P (.call g ps) dst e h sm R u:=eN ls hL.out kg hl lw hlt iE hR
theorem bl {A:Prop}(h:A:=by first|rfl|simp only[az,dY,aH,ai,ct,aj,aM,aq,XD,X8,XU,ZY,decide_true,Yn,Yz]):A:=h
theorem se {e e':cm}(h:Iz e e':=by repeat' (first|exact trivial|(refine⟨rfl,?_⟩))):Iz e e':=h
theorem wi (k:Nat)(h:k < 9223372036854775807):IntKind.i64.wrap ((k:Int)+1)=((k+1:Nat):Int):=by rw[IntKind.wrap_i64];omega
theorem dg {A:Prop}(h:A:=by repeat(first|exact ap.refl _|exact ap.nil _|(refine ap.tup ?_)|(refine ap.agg ?_ rfl)|exact trivial|(refine And.intro ?_ ?_))):A:=h
theorem dz {a b:D}(h:ap a b:=by repeat(first|exact ap.refl _|exact ap.nil _|(refine ap.tup ?_)|(refine ap.agg ?_ rfl)|exact trivial|(refine And.intro ?_ ?_))):ap a b:=h
theorem wf {P:Program}{n m:Nat}{e e':cm}{h h' x:List Chunk}(hm:m≤h'.length:=by simp)(hh:h=h'++x:=by rfl)(he:Iz e e':=by repeat' (first|exact trivial|(refine⟨rfl,?_⟩)))
 (hb:dY h'.length e'=true:=by first|rfl|simp only[az,dY,aH,ai,ct,aj,aM,aq,XD,X8,XU,ZY,decide_true,Yn,Yz]) (hbh:az h'.length h'=true:=by first|rfl|simp only[az,dY,aH,ai,ct,aj,aM,aq,XD,X8,XU,ZY,decide_true,Yn,Yz]):eo P n m e h e' h':=dQ x hm hh he hb hbh
theorem bo {P:Prop}(h:P:=by
 first|((repeat' (first|(with_reducible refine And.intro ?_ ?_)|(with_reducible refine dO (fun cE=>?_) (fun cE=>?_))|(with_reducible refine aN (fun cE=>?_) (fun cE=>?_))|(with_reducible refine cg (by kernel_rfl))|simp -dsimp only[go_sem,seval, *,undef,Xq,Yr,bne_self_eq_false,beq_self_eq_true,XJ,YL,YZ]|((with_reducible refine ci ?_);simp -dsimp only[go_sem,seval, *,undef,Xq,Yr,bne_self_eq_false,beq_self_eq_true,XJ,YL,YZ];first|refine aP (by assumption) (by first|exact .inl rfl|exact .inr rfl) ?_|(refine aO (by assumption) ?_ ?_ ?_;(solve|(repeat(first|exact ap.refl _|exact ap.nil _|(refine ap.tup ?_)|(refine ap.agg ?_ rfl)|exact trivial|(refine And.intro ?_ ?_))));(solve|exact .inl rfl|exact .inr rfl)))|(refine um (by assumption) ?_ ?_ ?_ ?_ ?_ ?_;(solve|rfl|simp only[go_sem,seval]);(solve|rfl);(solve|decide);(solve|simp);(solve|simp only[go_sem,seval,aZ]))|(refine tq (by assumption) ?_ ?_ ?_ ?_ ?_ ?_;(solve|rfl|simp only[go_sem,seval]);(solve|rfl);(solve|decide);(solve|simp);(solve|simp only[go_sem,seval,aZ]))|omega|exact decide_eq_true (by omega)|exact ap.refl _));done)|fail):P:=h
theorem ay {Q1 P:Prop}(q1:Q1)(h:Hd Q1→P:=by
 intro q1;first|((repeat' (first|(with_reducible refine And.intro ?_ ?_)|(with_reducible refine dO (fun cE=>?_) (fun cE=>?_))|(with_reducible refine aN (fun cE=>?_) (fun cE=>?_))|(with_reducible refine cg (by kernel_rfl))|simp -dsimp only[go_sem,seval, *,undef,Xq,Yr,bne_self_eq_false,beq_self_eq_true,XJ,YL,YZ]|((with_reducible refine ci ?_);simp -dsimp only[go_sem,seval, *,undef,Xq,Yr,bne_self_eq_false,beq_self_eq_true,XJ,YL,YZ];first|refine aP (by assumption) (by first|exact .inl rfl|exact .inr rfl) ?_|(refine aO (by assumption) ?_ ?_ ?_;(solve|(repeat(first|exact ap.refl _|exact ap.nil _|(refine ap.tup ?_)|(refine ap.agg ?_ rfl)|exact trivial|(refine And.intro ?_ ?_))));(solve|exact .inl rfl|exact .inr rfl)))|(refine um (by assumption) ?_ ?_ ?_ ?_ ?_ ?_;(solve|rfl|simp only[go_sem,seval]);(solve|rfl);(solve|decide);(solve|simp);(solve|simp only[go_sem,seval,aZ]))|(refine tq (by assumption) ?_ ?_ ?_ ?_ ?_ ?_;(solve|rfl|simp only[go_sem,seval]);(solve|rfl);(solve|decide);(solve|simp);(solve|simp only[go_sem,seval,aZ]))|omega|exact decide_eq_true (by omega)|exact ap.refl _));all_goals((repeat revert cE);first|(with_reducible exact q1.out)))|fail):P:=h ⟨q1⟩
theorem P5 {Q1 Q2 P:Prop}(q1:Q1)(q2:Q2)(h:Hd Q1→Hd Q2→P:=by
 intro q1 q2;first|((repeat' (first|(with_reducible refine And.intro ?_ ?_)|(with_reducible refine dO (fun cE=>?_) (fun cE=>?_))|(with_reducible refine aN (fun cE=>?_) (fun cE=>?_))|(with_reducible refine cg (by kernel_rfl))|simp -dsimp only[go_sem,seval, *,undef,Xq,Yr,bne_self_eq_false,beq_self_eq_true,XJ,YL,YZ]|((with_reducible refine ci ?_);simp -dsimp only[go_sem,seval, *,undef,Xq,Yr,bne_self_eq_false,beq_self_eq_true,XJ,YL,YZ];first|refine aP (by assumption) (by first|exact .inl rfl|exact .inr rfl) ?_|(refine aO (by assumption) ?_ ?_ ?_;(solve|(repeat(first|exact ap.refl _|exact ap.nil _|(refine ap.tup ?_)|(refine ap.agg ?_ rfl)|exact trivial|(refine And.intro ?_ ?_))));(solve|exact .inl rfl|exact .inr rfl)))|(refine um (by assumption) ?_ ?_ ?_ ?_ ?_ ?_;(solve|rfl|simp only[go_sem,seval]);(solve|rfl);(solve|decide);(solve|simp);(solve|simp only[go_sem,seval,aZ]))|(refine tq (by assumption) ?_ ?_ ?_ ?_ ?_ ?_;(solve|rfl|simp only[go_sem,seval]);(solve|rfl);(solve|decide);(solve|simp);(solve|simp only[go_sem,seval,aZ]))|omega|exact decide_eq_true (by omega)|exact ap.refl _));all_goals((repeat revert cE);first|(with_reducible exact q1.out)|(with_reducible exact q2.out)))|fail)
 (e1:Or1 Q1:=by first|(with_reducible exact(Or1.mk:Or1 True))|exact Or1.mk) (e2:Or1 Q2:=by first|(with_reducible exact(Or1.mk:Or1 True))|exact Or1.mk):P:=h ⟨q1⟩ ⟨q2⟩
theorem Ku {Q1 Q2 Q3 P:Prop}(q1:Q1)(q2:Q2)(q3:Q3)(h:Hd Q1→Hd Q2→Hd Q3→P:=by
 intro q1 q2 q3;first|((repeat' (first|(with_reducible refine And.intro ?_ ?_)|(with_reducible refine dO (fun cE=>?_) (fun cE=>?_))|(with_reducible refine aN (fun cE=>?_) (fun cE=>?_))|(with_reducible refine cg (by kernel_rfl))|simp -dsimp only[go_sem,seval, *,undef,Xq,Yr,bne_self_eq_false,beq_self_eq_true,XJ,YL,YZ]|((with_reducible refine ci ?_);simp -dsimp only[go_sem,seval, *,undef,Xq,Yr,bne_self_eq_false,beq_self_eq_true,XJ,YL,YZ];first|refine aP (by assumption) (by first|exact .inl rfl|exact .inr rfl) ?_|(refine aO (by assumption) ?_ ?_ ?_;(solve|(repeat(first|exact ap.refl _|exact ap.nil _|(refine ap.tup ?_)|(refine ap.agg ?_ rfl)|exact trivial|(refine And.intro ?_ ?_))));(solve|exact .inl rfl|exact .inr rfl)))|(refine um (by assumption) ?_ ?_ ?_ ?_ ?_ ?_;(solve|rfl|simp only[go_sem,seval]);(solve|rfl);(solve|decide);(solve|simp);(solve|simp only[go_sem,seval,aZ]))|(refine tq (by assumption) ?_ ?_ ?_ ?_ ?_ ?_;(solve|rfl|simp only[go_sem,seval]);(solve|rfl);(solve|decide);(solve|simp);(solve|simp only[go_sem,seval,aZ]))|omega|exact decide_eq_true (by omega)|exact ap.refl _));all_goals((repeat revert cE);first|(with_reducible exact q1.out)|(with_reducible exact q2.out)|(with_reducible exact q3.out)))|fail)
 (e1:Or1 Q1:=by first|(with_reducible exact(Or1.mk:Or1 True))|exact Or1.mk) (e2:Or1 Q2:=by first|(with_reducible exact(Or1.mk:Or1 True))|exact Or1.mk) (e3:Or1 Q3:=by first|(with_reducible exact(Or1.mk:Or1 True))|exact Or1.mk):P:=h ⟨q1⟩ ⟨q2⟩ ⟨q3⟩
theorem Vl {Q1 Q2 Q3 Q4 P:Prop}(q1:Q1)(q2:Q2)(q3:Q3)(q4:Q4)(h:Hd Q1→Hd Q2→Hd Q3→Hd Q4→P:=by
 intro q1 q2 q3 q4;first|((repeat' (first|(with_reducible refine And.intro ?_ ?_)|(with_reducible refine dO (fun cE=>?_) (fun cE=>?_))|(with_reducible refine aN (fun cE=>?_) (fun cE=>?_))|(with_reducible refine cg (by kernel_rfl))|simp -dsimp only[go_sem,seval, *,undef,Xq,Yr,bne_self_eq_false,beq_self_eq_true,XJ,YL,YZ]|((with_reducible refine ci ?_);simp -dsimp only[go_sem,seval, *,undef,Xq,Yr,bne_self_eq_false,beq_self_eq_true,XJ,YL,YZ];first|refine aP (by assumption) (by first|exact .inl rfl|exact .inr rfl) ?_|(refine aO (by assumption) ?_ ?_ ?_;(solve|(repeat(first|exact ap.refl _|exact ap.nil _|(refine ap.tup ?_)|(refine ap.agg ?_ rfl)|exact trivial|(refine And.intro ?_ ?_))));(solve|exact .inl rfl|exact .inr rfl)))|(refine um (by assumption) ?_ ?_ ?_ ?_ ?_ ?_;(solve|rfl|simp only[go_sem,seval]);(solve|rfl);(solve|decide);(solve|simp);(solve|simp only[go_sem,seval,aZ]))|(refine tq (by assumption) ?_ ?_ ?_ ?_ ?_ ?_;(solve|rfl|simp only[go_sem,seval]);(solve|rfl);(solve|decide);(solve|simp);(solve|simp only[go_sem,seval,aZ]))|omega|exact decide_eq_true (by omega)|exact ap.refl _));all_goals((repeat revert cE);first|(with_reducible exact q1.out)|(with_reducible exact q2.out)|(with_reducible exact q3.out)|(with_reducible exact q4.out)))|fail)
 (e1:Or1 Q1:=by first|(with_reducible exact(Or1.mk:Or1 True))|exact Or1.mk) (e2:Or1 Q2:=by first|(with_reducible exact(Or1.mk:Or1 True))|exact Or1.mk) (e3:Or1 Q3:=by first|(with_reducible exact(Or1.mk:Or1 True))|exact Or1.mk) (e4:Or1 Q4:=by first|(with_reducible exact(Or1.mk:Or1 True))|exact Or1.mk):P:=h ⟨q1⟩ ⟨q2⟩ ⟨q3⟩ ⟨q4⟩
theorem Di {s:Bool}{ents:List (List Int × Int)}{seen:List Nat}(h:(leftOf (aX s ents 0).toArray seen.toArray).size=0){i:Nat}(hi:i < ents.length):i∈seen:=by
 have hg:=oJ s ents 0 i;rw[Xj hi]at hg;have hm:=Xl hg;refine Classical.byContradiction fun hn=>?_;have:{key:=iH s ents[i].1,val:=Value.int .i64 ents[i].2,born:=0+i:MapEntry}∈(leftOf (aX s ents 0).toArray seen.toArray).toList:=by
  unfold leftOf;simp;exact⟨by simpa using hm,by simpa using hn⟩
 have hz:(leftOf (aX s ents 0).toArray seen.toArray).toList=[]:=by
  have:(leftOf (aX s ents 0).toArray seen.toArray)=#[]:=Array.eq_empty_of_size_eq_zero h;rw[this]
 rw[hz]at this;simp at this
theorem Dj {s:Bool}{ents:List (List Int × Int)}{seen:List Nat}{x:MapEntry}(h:x∈(leftOf (aX s ents 0).toArray seen.toArray).toList):∃i,i < ents.length∧i∉seen∧x.born=i:=by
 unfold leftOf at h;simp at h;have:=j1 s ents 0 x h.1;exact⟨x.born,by omega,by simpa using h.2,rfl⟩
theorem RealC.set_it {X:Cfg}{s:FS}{a:Act}{w:World}{c:Cx}(h:RealC X s a w c){k n b bm:Nat}{sB:Bool}{ents:List (List Int × Int)}{seen:List Nat}(i:Nat)(hk:s.heap k= .it n sB ents seen)(hb:c.bl k=some b)(hh:w.heap[b]? =some (.mapIter (some bm) ents.length seen.toArray ents.length))(hM:¬c.M bm)(hm:w.heap[bm]? =some (.map (aX sB ents 0).toArray ents.length)):
 RealC X {s with heap:=cz [(k,.it n sB ents (seen++[i]))] s.heap} a {w with heap:=w.heap.setIfInBounds b (.mapIter (some bm) ents.length (seen.toArray.push i) ents.length)} c:=by
 have cV:c.block k (s.heap k)=some b:=by rw[hk];exact hb
 have hlt:b < w.heap.size:=(Yq.1 hh).1;have bH:b≠bm:=fun e=>hM ((h.mu bm).2 (.inr ⟨k,by rw[cV,e]⟩));have a0s:(w.heap.setIfInBounds b (.mapIter (some bm) ents.length (seen.toArray.push i) ents.length))[b]? =some (.mapIter (some bm) ents.length (seen.toArray.push i) ents.length):=by simp[hlt]
 have pX:∀b',b'≠b→(w.heap.setIfInBounds b (.mapIter (some bm) ents.length (seen.toArray.push i) ents.length))[b']? =w.heap[b']? :=fun b' hb'=>by
  rw[Array.getElem?_setIfInBounds];rw[if_neg (fun e=>hb' e.symm)]
 refine h.turn c.le_refl rfl (fun _ _=>rfl) (fun _ _=>rfl) rfl rfl rfl (by simp) (fun b' _ hb'=>pX b' (fun e=>hb' (by rw[e];exact cV))) (fun b'=>?_) (fun b' hb'=>?_) (fun ol=>?_)
 ·show c.M b'↔(c.M b'∧c.block k (s.heap k)≠some b')∨c.bl k=some b';rw[cV,hb];constructor
  ·intro hm;by_cases e:b=b'
   ·exact .inr (by rw[e])
   ·exact .inl ⟨hm,fun h=>e (XX.inj h)⟩
  ·rintro (⟨hm,_⟩|e)
   ·exact hm
   ·exact(h.mu b').2 (.inr ⟨k,by rw[cV];exact e⟩)
 ·have e:c.bl k=some b':=hb';refine⟨.inl (by rw[cV,←hb];exact e),?_⟩;simp only[Array.size_setIfInBounds];exact(h.new k b' (by rw[cV,←hb];exact e)).2
 ·exact .it n sB ents (seen++[i]) b bm hb (by rw[a0s];simp) hM (by rw[pX bm (fun e=>bH e.symm)];exact hm)
section
variable {P:Program}{n m:Nat}{T:Nat→Option TI}{Q:Nat→Option Nat}{K K':KT}{e:cm}{h:List Chunk}
theorem Dk {c:Code}(hK:∀x e h,K x e h→K' x e h)(hs:uh P n m c K e h):uh P n m c K' e h:=fun X hX hn re a w hr=>
 wp_mono (hs X hX hn re a w hr) fun _ _ _ ⟨e',h',hk,hr'⟩=>⟨e',h',hK _ _ _ hk,hr'⟩
theorem Hk {a b:Code}(bT:TabOK P T Q)(m3:P.follows .mixedOrders=true)(hb:lH n b=true)(ha:uh P n m a (wn (sC P n m T Q b K ⟨⟩) K) e h):uh P n m (.seq a b) K e h:=
 G7 fun C hC=>Dk (fun x e h hk=>by
  cases x with
  |normal=>exact hC _ _ (il bT m3 b _ _ _ hb hk)
  |_=>exact hk) ha
theorem Dl (bT:TabOK P T Q){id d1 d2 k nn:Nat}{o1 o2:Oper}{x:Operand}{sB:Bool}{ents:List (List Int × Int)}{seen:List Nat}(lz:m≤h.length)(ho1:o1.op= .next x false)(V8:o1.guard=none)(ES:o1.dst=some d1)(OC:o2.op= .extract (.tmp d1) 0)(hg2:o2.guard=none)(B6:o2.dst=some d2)(hn1:d1 < n)(H4:d2 < n)
 (hx:du e x= .ptr k 0) (hk:aw h k= .it nn sB ents seen) (Kl:k < h.length)
 (h0:(∀i,i < ents.length→i∈seen)→K .normal (fE (fE e (some d1) (.tup [.d (.v (.bool false))])) (some d2) (.d (.v (.bool false)))) h)
 (h1:∀i,i < ents.length→i∉seen→K .normal (fE (fE e (some d1) (.tup [.d (.v (.bool true)),.any,.any])) (some d2) (.d (.v (.bool true)))) (qF [(k,.it nn sB ents (seen++[i]))] h)):uh P n m (.region id #[o1,o2] false) K e h:=by
 intro X hX hn re a w hr;subst hX;subst hn;subst re;obtain⟨c,hc⟩:=hr;refine wp_region_list ?_;show wpList X.P #[o1,o2] _ [o1,o2] a w;unfold wpList;rw[if_pos (by unfold Region.wanted;rw[V8])];left;have e1:=bF hc x;rw[ax,hx]at e1;have bD:=hc.chunk k;have mX:(bG e h).heap k= .it nn sB ents seen:=hk;rw[mX]at bD;generalize hu:a.eval x=u at e1;have fin:∀(tp:PV) (b:Bool) (e':cm) (h':List Chunk) (a':Act) (w':World),e'=fE e (some d1) tp→(∃l,tp= .tup (.d (.v (.bool b))::l))→X.m≤h'.length→jW X (bG e' h') a' w'→K .normal (fE e' (some d2) (.d (.v (.bool b)))) h'→wpList X.P #[o1,o2] (RK X K) [o2] a' w':=by
  rintro tp b e' h' a' w' he ⟨l,rfl⟩ hm' hr' hK;unfold wpList;rw[if_pos (by unfold Region.wanted;rw[hg2])];left;have l9:O6 T Q e' h' o2= .res (.d (.v (.bool b))) [] [] True:=by
   unfold O6;rw[OC];simp only[du];rw[show eG e' d1= .tup (.d (.v (.bool b))::l) by rw[he];simp[fE,eG]];simp[zB]
  have cC:=LQ (X:=X) (ops:=#[o1,o2]) bT (fun d hd=>by rw[B6]at hd;cases hd;exact H4) hm' l9 trivial;refine cC.2.2 (bG e' h') (fun _ _=>rfl) (fun _ _=>rfl) a' w' hr' _ _ fun v w'' hr''=>?_;unfold wpList;refine⟨_,_,hK,?_⟩;rw[px (fun kc h=>by simp at h),B6]at hr'';rw[←B6]at hr'';simpa[qF,B6]using hr''
 cases e1 with
 |ptr _ _ b hb=>
  cases bD with
  |it _ _ _ _ b' bm hb' hh hM hm=>
   rw[hb]at hb';cases hb';have EU:∀(tp:PV) (v:Value) (h':List Chunk) (w':World) (c':Cx),RealC X (bG e h') a w' c'→RepP c' w' tp v→jW X (bG (fE e (some d1) tp) h') (a.put o1.dst v) w':=by
    intro tp v h' w' c' hc' hp;have:=hc'.put (dst:=o1.dst) hp (fun d hd=>by rw[ES]at hd;cases hd;exact hn1);have h2:=px (e:=e) (h:=h') (dst:=o1.dst) (p:=tp) (eff:=[]) (touch:=[]) (fun kc h=>by simp at h);rw[←ES];refine⟨c',?_⟩;show RealC X (bG (fE e o1.dst tp) (qF [] h')) _ w' c';rw[←h2];exact this
   rcases run_next_at (P:=X.P) w o1.type b bm ents.length ents.length seen.toArray (aX sB ents 0).toArray ents.length hh hm (fun x hx=>by have:=j1 sB ents 0 x (by simpa using hx);omega) (XC _)with⟨hz,b9⟩|⟨x1,oh,w1,bV,b9⟩
   ·unfold Oper.wp;have VI:(execOp a.eval o1).run X.P w= .ok (.value (.tuple #[.bool false])) w:=by
     simp only[execOp,ho1,hu];rw[Sem.run_bind,b9];rfl
    rw[VI];exact fin (.tup [.d (.v (.bool false))]) false _ h _ _ rfl ⟨_,rfl⟩ lz (EU _ _ h w c hc (.tup _ [.bool false] rfl (fun j d y h1 h2=>by
     match j with
     |0=>simp at h1 h2;subst h1;subst h2;exact .d _ _ (.v _)
     |j+1=>simp at h1))) (h0 fun i hi=>Di hz hi)
   ·obtain⟨i,hi,Sw,VL⟩:=Dj oh;have RP:RealC X (bG e h) a w1 c:=by
     rcases bV with rfl|rfl
     ·exact hc
     ·exact hc.grow ⟨rfl,rfl,rfl,XC _,fun _ _=>rfl⟩
    have xX:w1.heap=w.heap:=by rcases bV with rfl|rfl<;>rfl
    have jQ:=RP.set_it i mX hb (by rw[xX];exact hh) hM (by rw[xX];exact hm);unfold Oper.wp;have VI:(execOp a.eval o1).run X.P w= .ok (.value (.tuple #[.bool true,x1.key,x1.val])) {w1 with heap:=w1.heap.setIfInBounds b (.mapIter (some bm) ents.length (seen.toArray.push i) ents.length)}:=by
     simp only[execOp,ho1,hu];rw[Sem.run_bind,b9,←VL];rfl
    rw[VI];have aT:∀kc∈[(k,Chunk.it nn sB ents (seen++[i]))],kc.1≤h.length:=fun kc Pa=>by simp at Pa;subst Pa;omega
    have hlc:aw (qF [(k,Chunk.it nn sB ents (seen++[i]))] h)=cz [(k,Chunk.it nn sB ents (seen++[i]))] (aw h):=funext (ta aT);have V9:RealC X (bG e (qF [(k,Chunk.it nn sB ents (seen++[i]))] h)) a {w1 with heap:=w1.heap.setIfInBounds b (.mapIter (some bm) ents.length (seen.toArray.push i) ents.length)} c:=by
     have:bG e (qF [(k,Chunk.it nn sB ents (seen++[i]))] h)={bG e h with heap:=cz [(k,.it nn sB ents (seen++[i]))] (bG e h).heap}:=by
      simp only[bG,hlc]
     rw[this];exact jQ
    refine fin (.tup [.d (.v (.bool true)),.any,.any]) true _ _ _ _ rfl ⟨_,rfl⟩ ?_ (EU _ _ _ _ c V9 (.tup _ [.bool true,x1.key,x1.val] rfl (fun j d y h1 h2=>by
     match j with
     |0=>simp at h1 h2;subst h1;subst h2;exact .d _ _ (.v _)
     |1=>simp at h1 h2;subst h1;exact .any _
     |2=>simp at h1 h2;subst h1;exact .any _
     |j+3=>simp at h1))) (h1 i hi Sw)
    exact Yu lz rJ
theorem Sa {c:Code}(I:Nat→cm→List Chunk→Prop)(mm:Nat)(e1:cm)(h1:List Chunk)(h0:I mm e1 h1)(hw:eo P n m e h e1 h1)
 (hr:∀k e h,I k e h→∀C:cm→List Chunk→Prop,(∀k' e1 h1 e h,k' < k→I k' e1 h1→eo P n m e h e1 h1→C e h)→uh P n m c (th C K) e h):Dd P n m c K ⟨⟩ e h:=
 fun _=>CZ I mm e1 h1 h0 hw fun k e h hI C hC=>Dk (fun x e h hk=>by cases x<;>exact hk) (hr k e h hI C hC)
end
@[go_sem] theorem a0R (h:Nat→Chunk)(l:List D):cA (vw h) (l.map .d)=some l:=vj h 6 l
@[go_sem] theorem a0S (h:Nat→Chunk)(l:List D):iI (tc h) (l.map .d)=[]:=AS h 6 l
def db {α:Type}(p:α→Bool)(l:List α):Int:=match l.findIdx? p with|some i=>(i:Int)|none=> -1
theorem fh {α:Type}{p:α→Bool}{l:List α}{k:Nat}{x:α}(hx:l[k]? =some x)(hp:p x=true)(cB:∀y∈l.take k,p y=false):db p l=k:=by
 have h:l.findIdx? p=some k:=by
  rw[XV];obtain⟨hk,hx'⟩:=Xo.1 hx;refine⟨hk,by rw[hx'];exact hp,fun j hj=>?_⟩;have:=cB l[j] (Xl (by rw[XQ hj];exact Xj (by omega)));rw[this];simp
 simp[db,h]
theorem fi {α:Type}{p:α→Bool}{l:List α}(cB:∀y∈l,p y=false):db p l= -1:=by
 have h:l.findIdx? p=none:=by rw[Yx];exact cB
 simp[db,h]
theorem go {α:Type}(p:α→Bool)(l:List α):decide (db p l≥0)=l.any p:=by
 unfold db;cases h:l.findIdx? p with
 |none=>
  rw[Yx]at h;have:l.any p=false:=by rw[Yw];intro x hx;rw[h x hx];simp
  rw[this];rfl
 |some i=>
  obtain⟨hi,hp,_⟩:=XV.1 h;have:l.any p=true:=Yd.2 ⟨_,Ym hi,hp⟩;rw[this];simp
def d7 (a b:Int):Int:=if a < b then -1 else if a>b then 1 else 0
theorem rR (a b:Int):decide (d7 a b < 0)=decide (a < b):=by
 unfold d7;split
 ·simp[*]
 ·split<;>simp[*]
theorem tr (a b:Int):(d7 a b==0)=(a==b):=by
 unfold d7;split
 ·rename_i h;rw[Yl];simp;omega
 ·split
  ·rw[Yl];simp;omega
  ·rw[Yl];simp;omega
theorem ww (x:Int):IntKind.u64.wrap x=x % 18446744073709551616:=rfl
def m4 {α:Type}(key:α→Int)(t:Int)(l:List α):Nat:=l.findIdx fun x=>decide (t≤key x)
def rS {α:Type}(key:α→Int)(t:Int)(l:List α):Bool:=match l[m4 key t l]? with|some x=>key x==t|none=>false
theorem tt {α:Type}{key:α→Int}{t:Int}{l:List α}{i:Nat}(hi:i≤l.length)(jV:∀q (hq:q < l.length),q < i→key l[q] < t)(lX:∀q (hq:q < l.length),i≤q→t≤key l[q]):m4 key t l=i:=by
 unfold m4;rcases XO i l.length with h|h
 ·rw[List.findIdx_eq h];refine⟨by simpa using lX i h (XC _),fun j hj=>?_⟩;have:=jV j (by omega) hj;simp;omega
 ·obtain rfl:i=l.length:=by omega
  rw[List.findIdx_eq_length];intro x hx;obtain⟨q,hq,rfl⟩:=Yf.1 hx;have:=jV q hq hq;simp;omega
theorem pj {f nt:Nat}{fn:Func}{c:Code}{rs:Array ResultVar}{ds:List D}{r:D}(hf:prog.funcs[f]? =some fn)(hn:fn.ntmps=nt)(hr:fn.results=rs)
 (hp:sC prog nt 0 yB LX c (rL yB rs.toList r) ⟨⟩ (qH (ds.map .d) 0) []) (hb:fn.body=some c:=by exact rfl) (hc:FG fn nt c ds.length=true:=by kernel_rfl):ae prog f ds r:=a0d af al hf hb hn hr hc hp
theorem mj {f nt:Nat}{fn:Func}{c:Code}{rs:Array ResultVar}{args:List PV}{h0 h1:List Chunk}{r:PV}(hf:prog.funcs[f]? =some fn)(hn:fn.ntmps=nt)(hr:fn.results=rs)
 (hp:sC prog nt h0.length yB LX c (yA prog h0.length yB rs.toList r h1) ⟨⟩ (qH args 0) h0) (hb:fn.body=some c:=by exact rfl) (hc:FG fn nt c args.length=true:=by kernel_rfl)
 (hle:h0.length≤h1.length:=by simp) (BR:ai h0.length args=true:=by simp[ai,aj]) (hbh:az h0.length h0=true:=by simp[az,aH,ai,aj,aM,aq]):MSpec prog f args h0 r h1:=im af al hf hb hn hr hc hle BR hbh hp
theorem Dm {α:Type}{enc:α→List D}(ef:∀x,(enc x).length=2)(p:α→Bool)(l:List α)(g:Nat)(caps:List D)(hl:l.length≤1000000000)(hc:∀x∈l,ae prog g (.agg (enc x)::caps) (.v (.bool (p x)))):
 ae prog 206 [.sl 2 (l.map enc),.clo g caps] (.v (.int .i64 (db p l))):=by
 refine pj func206 ntmps206 results206 ?_;refine ay ?_<;>intros;refine cf af al (fun m e h=>∃k:Nat,k≤l.length∧(∀x∈l.take k,p x=false)∧m=l.length - k∧e=[(8,.d (.v (.int .i64 k))),(7,.d (.v (.int .i64 l.length))),(4,.d (.v (.int .i64 0))),(1,.d (.clo g caps)),(0,.d (.sl 2 (l.map enc)))]∧h=[]) _ _ _ ⟨0,XL _,by simp,rfl,rfl,rfl⟩ ?_ ?_
 ·exact wf (x:=[]) (hh:=rfl) (he:=⟨rfl,rfl,rfl,rfl,rfl,trivial⟩)
 ·rintro m e h ⟨k,hk,cB,rfl,rfl,rfl⟩ CL m5;by_cases hlt:k < l.length
  ·obtain⟨x,hx⟩:∃x,l[k]? =some x:=⟨_,Xj hlt⟩;have ec:(k:Int) < (l.length:Int):=by omega
   have dW:=wi k (by omega);have aT:=ef x;have gx:(enc x).take 2=enc x:=XI (by omega);have ji:=hc x (Xl hx);cases hp:p x with
   |false=>
    rw[hp]at ji;refine ay ?_<;>intros;refine m5 _ _ _ _ _ ?_ ⟨k+1,hlt,?_,rfl,rfl,rfl⟩ (wf (x:=[]) (hh:=rfl) (he:=⟨rfl,rfl,rfl,rfl,rfl,trivial⟩))
    ·omega
    ·intro y hy;rw[ah hx]at hy;rcases X4.1 hy with hy|hy
     ·exact cB y hy
     ·rw[X7]at hy;rw[hy];exact hp
   |true=>
    rw[hp]at ji;have lv:db p l=k:=fh hx hp cB;exact bo;all_goals rw[lv]
    all_goals exact ap.refl _
  ·obtain rfl:k=l.length:=by omega
   rw[Xq]at cB;refine ay ?_<;>intros;all_goals rw[fi cB]
   all_goals exact ap.refl _
theorem un {α:Type}{enc:α→List D}(ef:∀x,(enc x).length=2)(p:α→Bool)(l:List α)(g:Nat)(caps:List D)(hl:l.length≤1000000000)(hc:∀x∈l,ae prog g (.agg (enc x)::caps) (.v (.bool (p x)))):
 ae prog 122 [.sl 2 (l.map enc),.clo g caps] (.v (.bool (l.any p))):=by
 have hi:=Dm ef p l g caps hl hc;have pn:=go p l;refine pj func122 ntmps122 results122 ?_;exact bo;all_goals exact ap.refl _
theorem j3 (a:Int):ae prog 245 [.v (.int .i64 a)] (.v (.bool false)):=by
 have h:(a !=a)=false:=by simp
 refine pj func245 ntmps245 results245 ?_;exact bo;all_goals exact ap.refl _
theorem mC (a b:Int):ae prog 176 [.v (.int .i64 a),.v (.int .i64 b)] (.v (.int .i64 (d7 a b))):=by
 rcases Int.lt_trichotomy a b with h|h|h
 ·have h1:decide (a < b)=true:=by simpa using h
  have e:d7 a b= -1:=by simp[d7,h]
  refine pj func176 ntmps176 results176 ?_;have z1z:=j3 a;have z2z:=j3 b;exact bo;all_goals(rw[e];exact ap.refl _)
 ·subst h;have e:d7 a a=0:=by simp[d7]
  have h1:decide (a>a)=false:=by simp
  refine pj func176 ntmps176 results176 ?_;have z1z:=j3 a;exact bo;all_goals(rw[e];exact ap.refl _)
 ·have h1:decide (a < b)=false:=by simp;omega
  have h2:decide (a>b)=true:=by simpa using h
  have e:d7 a b=1:=by unfold d7;rw[if_neg (by omega),if_pos h]
  refine pj func176 ntmps176 results176 ?_;have z1z:=j3 a;have z2z:=j3 b;exact bo;all_goals(rw[e];exact ap.refl _)
theorem Dn:∀(h:List Chunk) (k:Nat),aw (h.map fun _=>Chunk.gone) k=if k < h.length then .gone else .none
 |[],_=>rfl
 |c::l,0=>rfl
 |c::l,k+1=>by simp only[Xm,aw,Dn l k,XD,Nat.add_lt_add_iff_right]
theorem tu {P:Program}{f:Nat}{args:List PV}{h0:List Chunk}{ds:List D}{r:D}(hp:ae P f ds r)(BR:ai h0.length args=true)(hbh:az h0.length h0=true)(hv:cA (vw (aw h0)) args=some ds)(ht:∀k∈iI (tc (aw h0)) args,k < h0.length):MSpec P f args h0 (.d r) (h0.map fun _=> .gone):=by
 refine⟨hp.1,by simp,BR,hbh,fun X hP hn hm w c vs hr kg=>?_⟩;subst hP;have hf:=hr.freeze (X3 h0.length);obtain⟨q1,q2⟩:=eH hv;have aY:co (lF c (aw h0) (X3 h0.length)) w ds vs:=⟨by rw[←q1];exact kg.1,fun j d x hj hx=>by
  obtain⟨p,hp',xU⟩:=q2 j d hj;exact kF hr 6 xU (fun k hk=>YP.2 (ht k (eZ (Xl hp') k hk))) (kg.2 j p x hp' hx)⟩
 refine(hp.2 _ w vs (fun b hb=>hr.lt hb.1) (hr.ginv.keep ⟨XC _,fun _ _ _=>rfl,fun b _ hb=>hb.1⟩) aY).mono ?_;rintro e w' ⟨v,rfl,hv',hx⟩;refine⟨v,{c with M:=lF c (aw h0) (X3 h0.length)},rfl,.d _ _ hv',?_⟩;have hg:=hf.grow hx;have he:({bG [] h0 with heap:=cz ((X3 h0.length).map fun k=>(k,.gone)) (bG [] h0).heap}:FS)=bG [] (h0.map fun _=> .gone):=by
  simp only[bG,FS.mk.injEq,true_and];funext k;rw[mv,Dn];by_cases hk:k < h0.length
  ·rw[if_pos (YP.2 hk),if_pos hk]
  ·rw[if_neg (fun h=>hk (YP.1 h)),if_neg hk];exact nh h0 k (by omega)
 rw[he]at hg;exact hg
theorem Mo (p:PV):ple p p:= .inl rfl
theorem zN:∀(l:List PV),uP l l
 |[]=>trivial
 |p::l=>⟨Mo p,zN l⟩
theorem Do:∀{a b c d:List PV},uP a b→uP c d→uP (a++c) (b++d)
 |[],[],_,_,_,h=>h
 |[],_::_,_,_,h,_=>h.elim
 |_::_,[],_,_,h,_=>h.elim
 |_::_,_::_,_,_,⟨h1,h2⟩,h=>⟨h1,Do h2 h⟩
theorem Dp:∀{a b:List PV},uP a b→a.length=b.length
 |[],[],_=>rfl
 |[],_::_,h=>h.elim
 |_::_,[],h=>h.elim
 |_::_,_::_,⟨_,h⟩=>by simp[Dp h]
theorem FJ:∀{a b:List D},tf a b→uP (a.map .d) (b.map .d)
 |[],[],_=>trivial
 |[],_::_,h=>h.elim
 |_::_,[],h=>h.elim
 |_::_,_::_,⟨h1,h2⟩=>⟨.inr ⟨_,_,rfl,rfl,h1⟩,FJ h2⟩
def wx:List (List PV)→List (List PV)→Prop
 |[],[]=>True
 |r::l,s::m=>uP r s∧wx l m
 |_,_=>False
theorem tv:∀(l:List (List PV)),wx l l
 |[]=>trivial
 |r::l=>⟨zN r,tv l⟩
theorem Dq:∀{a b c d:List (List PV)},wx a b→wx c d→wx (a++c) (b++d)
 |[],[],_,_,_,h=>h
 |[],_::_,_,_,h,_=>h.elim
 |_::_,[],_,_,h,_=>h.elim
 |_::_,_::_,_,_,⟨h1,h2⟩,h=>⟨h1,Dq h2 h⟩
theorem zO:∀{a b:List (List PV)},wx a b→uP a.flatten b.flatten
 |[],[],_=>trivial
 |[],_::_,h=>h.elim
 |_::_,[],h=>h.elim
 |_::_,_::_,⟨h1,h2⟩=>Do h1 (zO h2)
theorem Dr:∀{a b:List (List PV)},wx a b→a.length=b.length
 |[],[],_=>rfl
 |[],_::_,h=>h.elim
 |_::_,[],h=>h.elim
 |_::_,_::_,⟨_,h⟩=>by simp[Dr h]
theorem Hl {sz:Nat}:∀{a b:List (List PV)},wx a b→(∀r∈a,r.length=sz)→∀r∈b,r.length=sz
 |[],[],_,_=>fun r h=>by simp at h
 |[],_::_,h,_=>h.elim
 |_::_,[],h,_=>h.elim
 |_::_,_::_,⟨h1,h2⟩,h=>fun r hr=>by
  rcases XY.1 hr with rfl|hr
  ·rw[←Dp h1];exact h _ (by simp)
  ·exact Hl h2 (fun r hr=>h r (by simp[hr])) r hr
theorem Ds {A B:List (List D)}{r s:List D}(h:tf r s):wx (ab (A++r::B)) (ab (A++s::B)):=by
 simp only[ab,Xz,Xm];exact Dq (tv _) ⟨FJ h,tv _⟩
theorem qK {α:Type}{enc:α→List D}(h:∀x,(enc x).all D.one=true)(l:List α):∀r∈ab (l.map enc),∀d∈r,d.one=true:=fun r hr d hd=>by
 obtain⟨q,hq,rfl⟩:=gI hr;obtain⟨x,-,rfl⟩:=XH.1 hq;obtain⟨y,hy,rfl⟩:=XH.1 hd;exact XB.1 (h x) y hy
theorem RealC.row_le {X:Cfg}{e:cm}{h:List Chunk}{a:Act}{w:World}{c:Cx}(hr:RealC X (bG e h) a w c){k E sz g:Nat}{rows rows':List (List PV)}(hk:aw h k= .row E sz g rows)(hlt:k < h.length)(hle:wx rows rows')(h1:∀r∈rows',∀d∈r,d.one=true):
 RealC X (bG e (bu h k (.row E sz g rows'))) a w c:=by
 have hh:∀k',(bG e (bu h k (.row E sz g rows'))).heap k'=if k'=k then .row E sz g rows' else (bG e h).heap k':=fun k'=>fO (G' hlt) k';have hb:∀k',c.block k' ((bG e (bu h k (.row E sz g rows'))).heap k')=c.block k' ((bG e h).heap k'):=by
  intro k';rw[hh];split
  ·rename_i he;subst he;show _=c.block k' (aw h k');rw[hk];rfl
  ·rfl
 refine⟨hr.size,hr.defers,hr.ext,hr.inv,hr.fresh,fun b=>?_,fun k' b H8=>?_,fun k' k'' b h1 h2=>?_,hr.env,fun k'=>?_,hr.lent⟩
 ·rw[hr.mu b];simp only[hb]
 ·rw[hb]at H8;exact hr.new k' b H8
 ·rw[hb]at h1 h2;exact hr.apart k' k'' b h1 h2
 ·rw[hh];split
  ·rename_i he;subst he;have bD:=hr.chunk k';rw[show (bG e h).heap k'=_ from hk]at bD;cases bD with
   |row _ _ _ _ v xs hv bt EV cM di hg=>
    exact .row E sz g rows' v xs hv (by rw[←Dr hle];exact bt) (rQ (zO hle) EV) (Hl hle cM) h1 hg
  ·exact hr.chunk k'
theorem MSpec.leh {P:Program}{f:Nat}{args:List PV}{E sz g:Nat}{rows rows':List (List PV)}{r:PV}{h1:List Chunk}(hM:MSpec P f args [.row E sz g rows'] r h1)(hle:wx rows rows')(ho:∀r∈rows',∀d∈r,d.one=true)(hb:ct 1 rows=true):MSpec P f args [.row E sz g rows] r h1:=
 ⟨hM.fn,hM.le,hM.ba,by simp only[XD,X8,az,aH,XK,hb,Yn],fun X hP hn hm w c vs hr kg=>hM.run X hP hn hm w c vs (hr.row_le (k:=0) rfl (by simp) hle ho) kg⟩
theorem wy {α:Type}{enc:α→List D}(ef:∀x,(enc x).length=3)(p:α→Bool)(l:List α)(g:Nat)(caps:List D)(hl:l.length≤1000000000)(hc:∀x∈l,ae prog g (.agg (enc x)::caps) (.v (.bool (p x)))):
 ae prog 185 [.sl 3 (l.map enc),.clo g caps] (.v (.int .i64 (db p l))):=by
 refine pj func185 ntmps185 results185 ?_;refine ay ?_<;>intros;refine cf af al (fun m e h=>∃k:Nat,k≤l.length∧(∀x∈l.take k,p x=false)∧m=l.length - k∧e=[(8,.d (.v (.int .i64 k))),(7,.d (.v (.int .i64 l.length))),(4,.d (.v (.int .i64 0))),(1,.d (.clo g caps)),(0,.d (.sl 3 (l.map enc)))]∧h=[]) _ _ _ ⟨0,XL _,by simp,rfl,rfl,rfl⟩ ?_ ?_
 ·exact wf (x:=[]) (hh:=rfl) (he:=⟨rfl,rfl,rfl,rfl,rfl,trivial⟩)
 ·rintro m e h ⟨k,hk,cB,rfl,rfl,rfl⟩ CL m5;by_cases hlt:k < l.length
  ·obtain⟨x,hx⟩:∃x,l[k]? =some x:=⟨_,Xj hlt⟩;have ec:(k:Int) < (l.length:Int):=by omega
   have dW:=wi k (by omega);have aT:=ef x;have gx:(enc x).take 3=enc x:=XI (by omega);have ji:=hc x (Xl hx);cases hp:p x with
   |false=>
    rw[hp]at ji;refine ay ?_<;>intros;refine m5 _ _ _ _ _ ?_ ⟨k+1,hlt,?_,rfl,rfl,rfl⟩ (wf (x:=[]) (hh:=rfl) (he:=⟨rfl,rfl,rfl,rfl,rfl,trivial⟩))
    ·omega
    ·intro y hy;rw[ah hx]at hy;rcases X4.1 hy with hy|hy
     ·exact cB y hy
     ·rw[X7]at hy;rw[hy];exact hp
   |true=>
    rw[hp]at ji;have lv:db p l=k:=fh hx hp cB;exact bo;all_goals rw[lv]
    all_goals exact ap.refl _
  ·obtain rfl:k=l.length:=by omega
   rw[Xq]at cB;refine ay ?_<;>intros;all_goals rw[fi cB]
   all_goals exact ap.refl _
theorem nq {α:Type}{enc:α→List D}(ef:∀x,(enc x).length=3)(p:α→Bool)(l:List α)(g:Nat)(caps:List D)(hl:l.length≤1000000000)(hc:∀x∈l,ae prog g (.agg (enc x)::caps) (.v (.bool (p x)))):
 ae prog 247 [.sl 3 (l.map enc),.clo g caps] (.v (.bool (l.any p))):=by
 have hi:=wy ef p l g caps hl hc;have pn:=go p l;refine pj func247 ntmps247 results247 ?_;exact bo;all_goals exact ap.refl _
theorem wz {α:Type}{enc:α→List D}(ef:∀x,(enc x).length=4)(p:α→Bool)(l:List α)(g:Nat)(caps:List D)(hl:l.length≤1000000000)(hc:∀x∈l,ae prog g (.agg (enc x)::caps) (.v (.bool (p x)))):
 ae prog 251 [.sl 4 (l.map enc),.clo g caps] (.v (.int .i64 (db p l))):=by
 refine pj func251 ntmps251 results251 ?_;refine ay ?_<;>intros;refine cf af al (fun m e h=>∃k:Nat,k≤l.length∧(∀x∈l.take k,p x=false)∧m=l.length - k∧e=[(8,.d (.v (.int .i64 k))),(7,.d (.v (.int .i64 l.length))),(4,.d (.v (.int .i64 0))),(1,.d (.clo g caps)),(0,.d (.sl 4 (l.map enc)))]∧h=[]) _ _ _ ⟨0,XL _,by simp,rfl,rfl,rfl⟩ ?_ ?_
 ·exact wf (x:=[]) (hh:=rfl) (he:=⟨rfl,rfl,rfl,rfl,rfl,trivial⟩)
 ·rintro m e h ⟨k,hk,cB,rfl,rfl,rfl⟩ CL m5;by_cases hlt:k < l.length
  ·obtain⟨x,hx⟩:∃x,l[k]? =some x:=⟨_,Xj hlt⟩;have ec:(k:Int) < (l.length:Int):=by omega
   have dW:=wi k (by omega);have aT:=ef x;have gx:(enc x).take 4=enc x:=XI (by omega);have ji:=hc x (Xl hx);cases hp:p x with
   |false=>
    rw[hp]at ji;refine ay ?_<;>intros;refine m5 _ _ _ _ _ ?_ ⟨k+1,hlt,?_,rfl,rfl,rfl⟩ (wf (x:=[]) (hh:=rfl) (he:=⟨rfl,rfl,rfl,rfl,rfl,trivial⟩))
    ·omega
    ·intro y hy;rw[ah hx]at hy;rcases X4.1 hy with hy|hy
     ·exact cB y hy
     ·rw[X7]at hy;rw[hy];exact hp
   |true=>
    rw[hp]at ji;have lv:db p l=k:=fh hx hp cB;exact bo;all_goals rw[lv]
    all_goals exact ap.refl _
  ·obtain rfl:k=l.length:=by omega
   rw[Xq]at cB;refine ay ?_<;>intros;all_goals rw[fi cB]
   all_goals exact ap.refl _
theorem wA {α:Type}{enc:α→List D}(ef:∀x,(enc x).length=4)(p:α→Bool)(l:List α)(g:Nat)(caps:List D)(hl:l.length≤1000000000)(hc:∀x∈l,ae prog g (.agg (enc x)::caps) (.v (.bool (p x)))):
 ae prog 187 [.sl 4 (l.map enc),.clo g caps] (.v (.bool (l.any p))):=by
 have hi:=wz ef p l g caps hl hc;have pn:=go p l;refine pj func187 ntmps187 results187 ?_;exact bo;all_goals exact ap.refl _
theorem zP {α:Type}{enc:α→List D}(ef:∀x,(enc x).length=2)(p:α→Bool)(l:List α)(g:Nat)(caps:List D)(hl:l.length≤1000000000)(hc:∀x∈l,ae prog g (.agg (enc x)::caps) (.v (.bool (p x)))):
 ae prog 256 [.sl 2 (l.map enc),.clo g caps] (.v (.int .i64 (db p l))):=by
 refine pj func256 ntmps256 results256 ?_;refine ay ?_<;>intros;refine cf af al (fun m e h=>∃k:Nat,k≤l.length∧(∀x∈l.take k,p x=false)∧m=l.length - k∧e=[(8,.d (.v (.int .i64 k))),(7,.d (.v (.int .i64 l.length))),(4,.d (.v (.int .i64 0))),(1,.d (.clo g caps)),(0,.d (.sl 2 (l.map enc)))]∧h=[]) _ _ _ ⟨0,XL _,by simp,rfl,rfl,rfl⟩ ?_ ?_
 ·exact wf (x:=[]) (hh:=rfl) (he:=⟨rfl,rfl,rfl,rfl,rfl,trivial⟩)
 ·rintro m e h ⟨k,hk,cB,rfl,rfl,rfl⟩ CL m5;by_cases hlt:k < l.length
  ·obtain⟨x,hx⟩:∃x,l[k]? =some x:=⟨_,Xj hlt⟩;have ec:(k:Int) < (l.length:Int):=by omega
   have dW:=wi k (by omega);have aT:=ef x;have gx:(enc x).take 2=enc x:=XI (by omega);have ji:=hc x (Xl hx);cases hp:p x with
   |false=>
    rw[hp]at ji;refine ay ?_<;>intros;refine m5 _ _ _ _ _ ?_ ⟨k+1,hlt,?_,rfl,rfl,rfl⟩ (wf (x:=[]) (hh:=rfl) (he:=⟨rfl,rfl,rfl,rfl,rfl,trivial⟩))
    ·omega
    ·intro y hy;rw[ah hx]at hy;rcases X4.1 hy with hy|hy
     ·exact cB y hy
     ·rw[X7]at hy;rw[hy];exact hp
   |true=>
    rw[hp]at ji;have lv:db p l=k:=fh hx hp cB;exact bo;all_goals rw[lv]
    all_goals exact ap.refl _
  ·obtain rfl:k=l.length:=by omega
   rw[Xq]at cB;refine ay ?_<;>intros;all_goals rw[fi cB]
   all_goals exact ap.refl _
theorem Jc {α:Type}{enc:α→List D}(ef:∀x,(enc x).length=2)(p:α→Bool)(l:List α)(g:Nat)(caps:List D)(hl:l.length≤1000000000)(hc:∀x∈l,ae prog g (.agg (enc x)::caps) (.v (.bool (p x)))):
 ae prog 263 [.sl 2 (l.map enc),.clo g caps] (.v (.bool (l.any p))):=by
 have hi:=zP ef p l g caps hl hc;have pn:=go p l;refine pj func263 ntmps263 results263 ?_;exact bo;all_goals exact ap.refl _
section
open Go.Proofs
def gh (n:Int):Int:=2 ^ (16 - n).toNat
theorem fG {n:Int}(h0:0≤n):1≤gh n∧gh n≤65536:=by have:=wt n h0;unfold gh;omega
theorem wB (n:Int)(w:World)(h0:0≤n)(h1:n≤16):
 Calls prog 225 #[.int .i64 n] w fun e w'=>e= .returned (.int .i64 (gh n))∧w=w':=by
 have hp:=wt n h0;go_enter func225,ntmps225
 go_wp2
 go_ret
 exact⟨rfl,rfl⟩
theorem uQ (a l:Int)(w:World):
 Calls prog 223 #[.agg #[.int .i64 a,.int .i64 l]] w fun e w'=>e= .returned (.int .i64 (chk a l))∧cW w w':=by
 by_cases hl:0≤l∧l≤16
 ·have e1:dE l 0 16=true:=by simp[dE,hl]
  by_cases ha:0≤a∧a≤65535
  ·have e2:dE a 0 65535=true:=by simp[dE,ha]
   have hm:=wt l hl.1;obtain⟨⟨g1,g2⟩,g3,g4⟩:=And.intro hl ha;clear hl ha;obtain⟨z1,z2⟩:=fG g1;have z3:¬gh l=0:=by omega
   have hc:=Xk (FB g1 g2 g3 g4);go_enter func223,ntmps223
   go_wp2_with (first|(go_at_call 55;refine(m7 _ _ _ _).mono ?_;rintro e w' ⟨rfl,rfl⟩))
   refine dD (by kernel_rfl) (by kernel_rfl) ?_;repeat(first|((first|refine jF rfl rfl rfl (by with_reducible rfl) ?_|refine jG rfl rfl rfl (by with_reducible rfl) ?_|refine jH rfl rfl rfl (by with_reducible rfl) ?_);simp only[Act.put,Xn,Xv,Xw])|(apply dC;(first|exact bp rfl|exact bE rfl rfl rfl (by with_reducible rfl));intro wq cE R hR;(have ee:=(aI cE).1;(try simp only[Xr,aa,Xu,Xs]at ee);go_simp;first|exact hR|((go_at_call 225;exact qv cE (wB _ _ g1 g2) hR)));simp only[Act.put,Xn,Xv,Xw]))
   refine wpQuiet_nil ?_;intro w1 bV;obtain⟨bR,bW⟩:=aI bV;have ce:=bw bV;(try simp only[Xr,aa,Xu,Xs]at bR bW ce)
   go_wp2_with fail
   ·go_ret
    rename_i h;refine⟨bM ?_,?_⟩
    ·rw[hc.out,if_neg (by rw[ZO g3]at h;simpa[gh]using h)]
    ·refine Bel.bel (B:=_) ?_;(repeat(first|with_reducible assumption|with_reducible exact Bel.refl _|with_reducible refine Bel.alloc ?_ _|with_reducible refine Bel.drewN ?_ _|with_reducible refine Bel.drew ?_|(with_reducible refine ak ?_ ?_ _;rotate_left;(first|omega|(simp;done)|(simp;omega)))|(with_reducible refine Bel.setCell ?_ (p:=_) ?_ _;rotate_left;(first|(simp;done)|omega|(simp;omega)))|refine Bel.call ?_ (by assumption)|(refine EX.bel ?_ (by assumption) ?_;rotate_left;(first|omega|(simp;omega)))))
   ·go_ret
    rename_i h;refine⟨bM ?_,?_⟩
    ·rw[hc.out,if_pos (by rw[ZO g3]at h;simpa[gh]using h)]
    ·refine Bel.bel (B:=_) ?_;(repeat(first|with_reducible assumption|with_reducible exact Bel.refl _|with_reducible refine Bel.alloc ?_ _|with_reducible refine Bel.drewN ?_ _|with_reducible refine Bel.drew ?_|(with_reducible refine ak ?_ ?_ _;rotate_left;(first|omega|(simp;done)|(simp;omega)))|(with_reducible refine Bel.setCell ?_ (p:=_) ?_ _;rotate_left;(first|(simp;done)|omega|(simp;omega)))|refine Bel.call ?_ (by assumption)|(refine EX.bel ?_ (by assumption) ?_;rotate_left;(first|omega|(simp;omega)))))
  ·have e2:dE a 0 65535=false:=by simp[dE];omega
   have hc:=Xk (Mb (a:=a) (l:=l) (by omega));clear hl ha;go_enter func223,ntmps223
   go_wp2_with (first|(go_at_call 55;refine(m7 _ _ _ _).mono ?_;rintro e w' ⟨rfl,rfl⟩))
   go_ret
   refine⟨bM hc.out.symm,?_⟩;refine Bel.bel (B:=_) ?_;(repeat(first|with_reducible assumption|with_reducible exact Bel.refl _|with_reducible refine Bel.alloc ?_ _|with_reducible refine Bel.drewN ?_ _|with_reducible refine Bel.drew ?_|(with_reducible refine ak ?_ ?_ _;rotate_left;(first|omega|(simp;done)|(simp;omega)))|(with_reducible refine Bel.setCell ?_ (p:=_) ?_ _;rotate_left;(first|(simp;done)|omega|(simp;omega)))|refine Bel.call ?_ (by assumption)|(refine EX.bel ?_ (by assumption) ?_;rotate_left;(first|omega|(simp;omega)))))
 ·have e1:dE l 0 16=false:=by simp[dE];omega
  have hc:=Xk (Mb (a:=a) (l:=l) (by omega));clear hl;go_enter func223,ntmps223
  go_wp2_with (first|(go_at_call 55;refine(m7 _ _ _ _).mono ?_;rintro e w' ⟨rfl,rfl⟩))
  go_ret
  refine⟨bM hc.out.symm,?_⟩;refine Bel.bel (B:=_) ?_;(repeat(first|with_reducible assumption|with_reducible exact Bel.refl _|with_reducible refine Bel.alloc ?_ _|with_reducible refine Bel.drewN ?_ _|with_reducible refine Bel.drew ?_|(with_reducible refine ak ?_ ?_ _;rotate_left;(first|omega|(simp;done)|(simp;omega)))|(with_reducible refine Bel.setCell ?_ (p:=_) ?_ _;rotate_left;(first|(simp;done)|omega|(simp;omega)))|refine Bel.call ?_ (by assumption)|(refine EX.bel ?_ (by assumption) ?_;rotate_left;(first|omega|(simp;omega)))))
def mD (a l:Int):Int:=a+gh l - 1
def bq (a l:Int):Bool:=chk a l==0
def kH (a l x:Int):Bool:=bq a l&&dE x a (mD a l)
def yE (a l b m:Int):Bool:=bq a l&&bq b m&&kH b m a&&kH b m (mD a l)
def oS (a l b m:Int):Bool:=bq a l&&bq b m&&decide (a≤mD b m)&&decide (b≤mD a l)
theorem dx {a l:Int}(h:bq a l=true):0≤l∧l≤16∧0≤a∧a≤65535∧a % gh l=0:=by
 have h0:chk a l=0:=by simpa[bq]using h
 unfold chk at h0;split at h0
 ·omega
 ·rename_i h1;split at h0
  ·rename_i h2;exact⟨by omega,by omega,by omega,by omega,h2⟩
  ·omega
theorem dH (a l:Int)(w:World):
 Calls prog 134 #[.agg #[.int .i64 a,.int .i64 l]] w fun e w'=>e= .returned (.bool (bq a l))∧cW w w':=by
 go_enter func134,ntmps134
 go_wp2_with fail
 refine(uQ a l _).mono ?_;rintro e w1 ⟨rfl,bV⟩;obtain⟨bR,bW⟩:=aI bV;have ce:=bw bV;(try simp only[Xr,aa,Xu,Xs]at bR bW ce)
 go_wp2_with fail
 go_ret
 refine⟨dw rfl,Bel.bel (B:=_) ?_⟩;(repeat(first|with_reducible assumption|with_reducible exact Bel.refl _|with_reducible refine Bel.alloc ?_ _|with_reducible refine Bel.drewN ?_ _|with_reducible refine Bel.drew ?_|(with_reducible refine ak ?_ ?_ _;rotate_left;(first|omega|(simp;done)|(simp;omega)))|(with_reducible refine Bel.setCell ?_ (p:=_) ?_ _;rotate_left;(first|(simp;done)|omega|(simp;omega)))|refine Bel.call ?_ (by assumption)|(refine EX.bel ?_ (by assumption) ?_;rotate_left;(first|omega|(simp;omega)))))
theorem mE (a l:Int)(w:World)(h:bq a l=true):
 Calls prog 136 #[.agg #[.int .i64 a,.int .i64 l]] w fun e w'=>e= .returned (.int .i64 (mD a l))∧cW w w':=by
 obtain⟨g1,g2,g3,g4,-⟩:=dx h;obtain⟨z1,z2⟩:=fG g1;clear h;go_enter func136,ntmps136
 go_wp2_with fail
 refine dD (by kernel_rfl) (by kernel_rfl) ?_;repeat(first|((first|refine jF rfl rfl rfl (by with_reducible rfl) ?_|refine jG rfl rfl rfl (by with_reducible rfl) ?_|refine jH rfl rfl rfl (by with_reducible rfl) ?_);simp only[Act.put,Xn,Xv,Xw])|(apply dC;(first|exact bp rfl|exact bE rfl rfl rfl (by with_reducible rfl));intro wq cE R hR;(have ee:=(aI cE).1;(try simp only[Xr,aa,Xu,Xs]at ee);go_simp;first|exact hR|((go_at_call 225;exact qv cE (wB _ _ g1 g2) hR)));simp only[Act.put,Xn,Xv,Xw]))
 refine wpQuiet_nil ?_;intro w1 bV;obtain⟨bR,bW⟩:=aI bV;have ce:=bw bV;(try simp only[Xr,aa,Xu,Xs]at bR bW ce)
 go_wp2_with fail
 go_ret
 refine⟨bM (by simp only[IntKind.wrap_i64];unfold mD;omega),Bel.bel (B:=_) ?_⟩;(repeat(first|with_reducible assumption|with_reducible exact Bel.refl _|with_reducible refine Bel.alloc ?_ _|with_reducible refine Bel.drewN ?_ _|with_reducible refine Bel.drew ?_|(with_reducible refine ak ?_ ?_ _;rotate_left;(first|omega|(simp;done)|(simp;omega)))|(with_reducible refine Bel.setCell ?_ (p:=_) ?_ _;rotate_left;(first|(simp;done)|omega|(simp;omega)))|refine Bel.call ?_ (by assumption)|(refine EX.bel ?_ (by assumption) ?_;rotate_left;(first|omega|(simp;omega)))))
theorem oT (a l x:Int)(w:World):
 Calls prog 224 #[.agg #[.int .i64 a,.int .i64 l],.int .i64 x] w fun e w'=>e= .returned (.bool (kH a l x))∧cW w w':=by
 by_cases h:bq a l=true
 ·have hv:kH a l x=dE x a (mD a l):=by simp[kH,h]
  rw[hv];go_enter func224,ntmps224
  go_wp2_with fail
  refine dD (by kernel_rfl) (by kernel_rfl) ?_;repeat(first|((first|refine jF rfl rfl rfl (by with_reducible rfl) ?_|refine jG rfl rfl rfl (by with_reducible rfl) ?_|refine jH rfl rfl rfl (by with_reducible rfl) ?_);simp only[Act.put,Xn,Xv,Xw])|(apply dC;(first|exact bp rfl|exact bE rfl rfl rfl (by with_reducible rfl));intro wq cE R hR;(have ee:=(aI cE).1;(try simp only[Xr,aa,Xu,Xs]at ee);go_simp;first|exact hR|(first|(go_at_call 134;exact jl cE (dH _ _ _) hR)|(go_at_call 136;exact jl cE (mE _ _ _ h) hR)|(go_at_call 55;exact qv cE (m7 _ _ _ _) hR)));simp only[Act.put,Xn,Xv,Xw]))
  refine wpQuiet_nil ?_;intro w1 bV;obtain⟨bR,bW⟩:=aI bV;have ce:=bw bV;(try simp only[Xr,aa,Xu,Xs]at bR bW ce)
  go_wp2_with fail
  go_ret
  refine⟨dw rfl,Bel.bel (B:=_) ?_⟩;(repeat(first|with_reducible assumption|with_reducible exact Bel.refl _|with_reducible refine Bel.alloc ?_ _|with_reducible refine Bel.drewN ?_ _|with_reducible refine Bel.drew ?_|(with_reducible refine ak ?_ ?_ _;rotate_left;(first|omega|(simp;done)|(simp;omega)))|(with_reducible refine Bel.setCell ?_ (p:=_) ?_ _;rotate_left;(first|(simp;done)|omega|(simp;omega)))|refine Bel.call ?_ (by assumption)|(refine EX.bel ?_ (by assumption) ?_;rotate_left;(first|omega|(simp;omega)))))
 ·have h:=(Bool.not_eq_true _).mp h;have hv:kH a l x=false:=by simp[kH,h]
  rw[hv];go_enter func224,ntmps224
  go_wp2_with fail
  refine dD (by kernel_rfl) (by kernel_rfl) ?_;repeat(first|((first|refine jF rfl rfl rfl (by with_reducible rfl) ?_|refine jG rfl rfl rfl (by with_reducible rfl) ?_|refine jH rfl rfl rfl (by with_reducible rfl) ?_);simp only[Act.put,Xn,Xv,Xw])|(apply dC;(first|exact bp rfl|exact bE rfl rfl rfl (by with_reducible rfl));intro wq cE R hR;(have ee:=(aI cE).1;(try simp only[Xr,aa,Xu,Xs]at ee);go_simp;first|exact hR|(first|(go_at_call 134;exact jl cE (dH _ _ _) hR)));simp only[Act.put,Xn,Xv,Xw]))
  refine wpQuiet_nil ?_;intro w1 bV;obtain⟨bR,bW⟩:=aI bV;have ce:=bw bV;(try simp only[Xr,aa,Xu,Xs]at bR bW ce)
  go_wp2_with fail
  go_ret
  refine⟨dw rfl,Bel.bel (B:=_) ?_⟩;(repeat(first|with_reducible assumption|with_reducible exact Bel.refl _|with_reducible refine Bel.alloc ?_ _|with_reducible refine Bel.drewN ?_ _|with_reducible refine Bel.drew ?_|(with_reducible refine ak ?_ ?_ _;rotate_left;(first|omega|(simp;done)|(simp;omega)))|(with_reducible refine Bel.setCell ?_ (p:=_) ?_ _;rotate_left;(first|(simp;done)|omega|(simp;omega)))|refine Bel.call ?_ (by assumption)|(refine EX.bel ?_ (by assumption) ?_;rotate_left;(first|omega|(simp;omega)))))
theorem rT (a l b m:Int)(w:World):
 Calls prog 135 #[.agg #[.int .i64 a,.int .i64 l],.agg #[.int .i64 b,.int .i64 m]] w fun e w'=>e= .returned (.bool (yE a l b m))∧cW w w':=by
 cases hA:bq a l
 case false=>
  go_enter func135,ntmps135
  go_wp2_with fail
  refine dD (by kernel_rfl) (by kernel_rfl) ?_;repeat(first|((first|refine jF rfl rfl rfl (by with_reducible rfl) ?_|refine jG rfl rfl rfl (by with_reducible rfl) ?_|refine jH rfl rfl rfl (by with_reducible rfl) ?_);simp only[Act.put,Xn,Xv,Xw])|(apply dC;(first|exact bp rfl|exact bE rfl rfl rfl (by with_reducible rfl));intro wq cE R hR;(have ee:=(aI cE).1;(try simp only[Xr,aa,Xu,Xs]at ee);go_simp;first|exact hR|(first|(go_at_call 134;exact jl cE (dH _ _ _) hR)));simp only[Act.put,Xn,Xv,Xw]))
  refine wpQuiet_nil ?_;intro w1 bV;obtain⟨bR,bW⟩:=aI bV;have ce:=bw bV;(try simp only[Xr,aa,Xu,Xs]at bR bW ce)
  go_wp2_with fail
  go_ret
  refine⟨dw (by simp[yE,hA]),Bel.bel (B:=_) ?_⟩;(repeat(first|with_reducible assumption|with_reducible exact Bel.refl _|with_reducible refine Bel.alloc ?_ _|with_reducible refine Bel.drewN ?_ _|with_reducible refine Bel.drew ?_|(with_reducible refine ak ?_ ?_ _;rotate_left;(first|omega|(simp;done)|(simp;omega)))|(with_reducible refine Bel.setCell ?_ (p:=_) ?_ _;rotate_left;(first|(simp;done)|omega|(simp;omega)))|refine Bel.call ?_ (by assumption)|(refine EX.bel ?_ (by assumption) ?_;rotate_left;(first|omega|(simp;omega)))))
 case true=>
  cases hB:bq b m
  case false=>
   go_enter func135,ntmps135
   go_wp2_with fail
   refine dD (by kernel_rfl) (by kernel_rfl) ?_;repeat(first|((first|refine jF rfl rfl rfl (by with_reducible rfl) ?_|refine jG rfl rfl rfl (by with_reducible rfl) ?_|refine jH rfl rfl rfl (by with_reducible rfl) ?_);simp only[Act.put,Xn,Xv,Xw])|(apply dC;(first|exact bp rfl|exact bE rfl rfl rfl (by with_reducible rfl));intro wq cE R hR;(have ee:=(aI cE).1;(try simp only[Xr,aa,Xu,Xs]at ee);go_simp;first|exact hR|(first|(go_at_call 134;exact jl cE (dH _ _ _) hR)));simp only[Act.put,Xn,Xv,Xw]))
   refine wpQuiet_nil ?_;intro w1 bV;obtain⟨bR,bW⟩:=aI bV;have ce:=bw bV;(try simp only[Xr,aa,Xu,Xs]at bR bW ce)
   go_wp2_with fail
   go_ret
   refine⟨dw (by simp[yE,hA,hB]),Bel.bel (B:=_) ?_⟩;(repeat(first|with_reducible assumption|with_reducible exact Bel.refl _|with_reducible refine Bel.alloc ?_ _|with_reducible refine Bel.drewN ?_ _|with_reducible refine Bel.drew ?_|(with_reducible refine ak ?_ ?_ _;rotate_left;(first|omega|(simp;done)|(simp;omega)))|(with_reducible refine Bel.setCell ?_ (p:=_) ?_ _;rotate_left;(first|(simp;done)|omega|(simp;omega)))|refine Bel.call ?_ (by assumption)|(refine EX.bel ?_ (by assumption) ?_;rotate_left;(first|omega|(simp;omega)))))
  case true=>
   cases hC:kH b m a
   case false=>
    go_enter func135,ntmps135
    go_wp2_with fail
    refine dD (by kernel_rfl) (by kernel_rfl) ?_;repeat(first|((first|refine jF rfl rfl rfl (by with_reducible rfl) ?_|refine jG rfl rfl rfl (by with_reducible rfl) ?_|refine jH rfl rfl rfl (by with_reducible rfl) ?_);simp only[Act.put,Xn,Xv,Xw])|(apply dC;(first|exact bp rfl|exact bE rfl rfl rfl (by with_reducible rfl));intro wq cE R hR;(have ee:=(aI cE).1;(try simp only[Xr,aa,Xu,Xs]at ee);go_simp;first|exact hR|(first|(go_at_call 134;exact jl cE (dH _ _ _) hR)|(go_at_call 224;exact jl cE (oT _ _ _ _) hR)|(go_at_call 136;exact jl cE (mE _ _ _ hA) hR)));simp only[Act.put,Xn,Xv,Xw]))
    refine wpQuiet_nil ?_;intro w1 bV;obtain⟨bR,bW⟩:=aI bV;have ce:=bw bV;(try simp only[Xr,aa,Xu,Xs]at bR bW ce)
    go_wp2_with fail
    go_ret
    refine⟨dw (by simp[yE,hA,hB,hC]),Bel.bel (B:=_) ?_⟩;(repeat(first|with_reducible assumption|with_reducible exact Bel.refl _|with_reducible refine Bel.alloc ?_ _|with_reducible refine Bel.drewN ?_ _|with_reducible refine Bel.drew ?_|(with_reducible refine ak ?_ ?_ _;rotate_left;(first|omega|(simp;done)|(simp;omega)))|(with_reducible refine Bel.setCell ?_ (p:=_) ?_ _;rotate_left;(first|(simp;done)|omega|(simp;omega)))|refine Bel.call ?_ (by assumption)|(refine EX.bel ?_ (by assumption) ?_;rotate_left;(first|omega|(simp;omega)))))
   case true=>
    go_enter func135,ntmps135
    go_wp2_with fail
    refine dD (by kernel_rfl) (by kernel_rfl) ?_;repeat(first|((first|refine jF rfl rfl rfl (by with_reducible rfl) ?_|refine jG rfl rfl rfl (by with_reducible rfl) ?_|refine jH rfl rfl rfl (by with_reducible rfl) ?_);simp only[Act.put,Xn,Xv,Xw])|(apply dC;(first|exact bp rfl|exact bE rfl rfl rfl (by with_reducible rfl));intro wq cE R hR;(have ee:=(aI cE).1;(try simp only[Xr,aa,Xu,Xs]at ee);go_simp;first|exact hR|(first|(go_at_call 134;exact jl cE (dH _ _ _) hR)|(go_at_call 224;exact jl cE (oT _ _ _ _) hR)|(go_at_call 136;exact jl cE (mE _ _ _ hA) hR)));simp only[Act.put,Xn,Xv,Xw]))
    refine wpQuiet_nil ?_;intro w1 bV;obtain⟨bR,bW⟩:=aI bV;have ce:=bw bV;(try simp only[Xr,aa,Xu,Xs]at bR bW ce)
    go_wp2_with fail
    go_ret
    refine⟨dw (by simp[yE,hA,hB,hC]),Bel.bel (B:=_) ?_⟩;(repeat(first|with_reducible assumption|with_reducible exact Bel.refl _|with_reducible refine Bel.alloc ?_ _|with_reducible refine Bel.drewN ?_ _|with_reducible refine Bel.drew ?_|(with_reducible refine ak ?_ ?_ _;rotate_left;(first|omega|(simp;done)|(simp;omega)))|(with_reducible refine Bel.setCell ?_ (p:=_) ?_ _;rotate_left;(first|(simp;done)|omega|(simp;omega)))|refine Bel.call ?_ (by assumption)|(refine EX.bel ?_ (by assumption) ?_;rotate_left;(first|omega|(simp;omega)))))
theorem Dt (a l b m:Int)(w:World):
 Calls prog 72 #[.agg #[.int .i64 a,.int .i64 l],.agg #[.int .i64 b,.int .i64 m]] w fun e w'=>e= .returned (.bool (oS a l b m))∧cW w w':=by
 cases hA:bq a l
 case false=>
  go_enter func72,ntmps72
  go_wp2_with fail
  refine dD (by kernel_rfl) (by kernel_rfl) ?_;repeat(first|((first|refine jF rfl rfl rfl (by with_reducible rfl) ?_|refine jG rfl rfl rfl (by with_reducible rfl) ?_|refine jH rfl rfl rfl (by with_reducible rfl) ?_);simp only[Act.put,Xn,Xv,Xw])|(apply dC;(first|exact bp rfl|exact bE rfl rfl rfl (by with_reducible rfl));intro wq cE R hR;(have ee:=(aI cE).1;(try simp only[Xr,aa,Xu,Xs]at ee);go_simp;first|exact hR|(first|(go_at_call 134;exact jl cE (dH _ _ _) hR)));simp only[Act.put,Xn,Xv,Xw]))
  refine wpQuiet_nil ?_;intro w1 bV;obtain⟨bR,bW⟩:=aI bV;have ce:=bw bV;(try simp only[Xr,aa,Xu,Xs]at bR bW ce)
  go_wp2_with fail
  go_ret
  refine⟨dw (by simp[oS,hA]),Bel.bel (B:=_) ?_⟩;(repeat(first|with_reducible assumption|with_reducible exact Bel.refl _|with_reducible refine Bel.alloc ?_ _|with_reducible refine Bel.drewN ?_ _|with_reducible refine Bel.drew ?_|(with_reducible refine ak ?_ ?_ _;rotate_left;(first|omega|(simp;done)|(simp;omega)))|(with_reducible refine Bel.setCell ?_ (p:=_) ?_ _;rotate_left;(first|(simp;done)|omega|(simp;omega)))|refine Bel.call ?_ (by assumption)|(refine EX.bel ?_ (by assumption) ?_;rotate_left;(first|omega|(simp;omega)))))
 case true=>
  cases hB:bq b m
  case false=>
   go_enter func72,ntmps72
   go_wp2_with fail
   refine dD (by kernel_rfl) (by kernel_rfl) ?_;repeat(first|((first|refine jF rfl rfl rfl (by with_reducible rfl) ?_|refine jG rfl rfl rfl (by with_reducible rfl) ?_|refine jH rfl rfl rfl (by with_reducible rfl) ?_);simp only[Act.put,Xn,Xv,Xw])|(apply dC;(first|exact bp rfl|exact bE rfl rfl rfl (by with_reducible rfl));intro wq cE R hR;(have ee:=(aI cE).1;(try simp only[Xr,aa,Xu,Xs]at ee);go_simp;first|exact hR|(first|(go_at_call 134;exact jl cE (dH _ _ _) hR)));simp only[Act.put,Xn,Xv,Xw]))
   refine wpQuiet_nil ?_;intro w1 bV;obtain⟨bR,bW⟩:=aI bV;have ce:=bw bV;(try simp only[Xr,aa,Xu,Xs]at bR bW ce)
   go_wp2_with fail
   go_ret
   refine⟨dw (by simp[oS,hA,hB]),Bel.bel (B:=_) ?_⟩;(repeat(first|with_reducible assumption|with_reducible exact Bel.refl _|with_reducible refine Bel.alloc ?_ _|with_reducible refine Bel.drewN ?_ _|with_reducible refine Bel.drew ?_|(with_reducible refine ak ?_ ?_ _;rotate_left;(first|omega|(simp;done)|(simp;omega)))|(with_reducible refine Bel.setCell ?_ (p:=_) ?_ _;rotate_left;(first|(simp;done)|omega|(simp;omega)))|refine Bel.call ?_ (by assumption)|(refine EX.bel ?_ (by assumption) ?_;rotate_left;(first|omega|(simp;omega)))))
  case true=>
   cases hC:decide (a≤mD b m)
   case false=>
    go_enter func72,ntmps72
    go_wp2_with fail
    refine dD (by kernel_rfl) (by kernel_rfl) ?_;repeat(first|((first|refine jF rfl rfl rfl (by with_reducible rfl) ?_|refine jG rfl rfl rfl (by with_reducible rfl) ?_|refine jH rfl rfl rfl (by with_reducible rfl) ?_);simp only[Act.put,Xn,Xv,Xw])|(apply dC;(first|exact bp rfl|exact bE rfl rfl rfl (by with_reducible rfl));intro wq cE R hR;(have ee:=(aI cE).1;(try simp only[Xr,aa,Xu,Xs]at ee);go_simp;first|exact hR|(first|(go_at_call 134;exact jl cE (dH _ _ _) hR)|(go_at_call 136;exact jl cE (mE _ _ _ (by assumption)) hR)));simp only[Act.put,Xn,Xv,Xw]))
    refine wpQuiet_nil ?_;intro w1 bV;obtain⟨bR,bW⟩:=aI bV;have ce:=bw bV;(try simp only[Xr,aa,Xu,Xs]at bR bW ce)
    go_wp2_with fail
    go_ret
    refine⟨dw (by simp[oS,hA,hB,hC]),Bel.bel (B:=_) ?_⟩;(repeat(first|with_reducible assumption|with_reducible exact Bel.refl _|with_reducible refine Bel.alloc ?_ _|with_reducible refine Bel.drewN ?_ _|with_reducible refine Bel.drew ?_|(with_reducible refine ak ?_ ?_ _;rotate_left;(first|omega|(simp;done)|(simp;omega)))|(with_reducible refine Bel.setCell ?_ (p:=_) ?_ _;rotate_left;(first|(simp;done)|omega|(simp;omega)))|refine Bel.call ?_ (by assumption)|(refine EX.bel ?_ (by assumption) ?_;rotate_left;(first|omega|(simp;omega)))))
   case true=>
    go_enter func72,ntmps72
    go_wp2_with fail
    refine dD (by kernel_rfl) (by kernel_rfl) ?_;repeat(first|((first|refine jF rfl rfl rfl (by with_reducible rfl) ?_|refine jG rfl rfl rfl (by with_reducible rfl) ?_|refine jH rfl rfl rfl (by with_reducible rfl) ?_);simp only[Act.put,Xn,Xv,Xw])|(apply dC;(first|exact bp rfl|exact bE rfl rfl rfl (by with_reducible rfl));intro wq cE R hR;(have ee:=(aI cE).1;(try simp only[Xr,aa,Xu,Xs]at ee);go_simp;first|exact hR|(first|(go_at_call 134;exact jl cE (dH _ _ _) hR)|(go_at_call 136;exact jl cE (mE _ _ _ (by assumption)) hR)));simp only[Act.put,Xn,Xv,Xw]))
    refine wpQuiet_nil ?_;intro w1 bV;obtain⟨bR,bW⟩:=aI bV;have ce:=bw bV;(try simp only[Xr,aa,Xu,Xs]at bR bW ce)
    go_wp2_with fail
    go_ret
    refine⟨dw (by simp[oS,hA,hB,hC]),Bel.bel (B:=_) ?_⟩;(repeat(first|with_reducible assumption|with_reducible exact Bel.refl _|with_reducible refine Bel.alloc ?_ _|with_reducible refine Bel.drewN ?_ _|with_reducible refine Bel.drew ?_|(with_reducible refine ak ?_ ?_ _;rotate_left;(first|omega|(simp;done)|(simp;omega)))|(with_reducible refine Bel.setCell ?_ (p:=_) ?_ _;rotate_left;(first|(simp;done)|omega|(simp;omega)))|refine Bel.call ?_ (by assumption)|(refine EX.bel ?_ (by assumption) ?_;rotate_left;(first|omega|(simp;omega)))))
end
section
open Go.Proofs
theorem fP {w:World}{b off:Nat}{c:Value}{cs:List Value}(h:w.cell? ⟨b,off,none⟩=some c)(hs:lD w b (off+1) cs):lD w b off (c::cs):=by
 intro i hi;match i with
 |0=>simpa using h
 |i+1=>have:=hs i (by simpa using hi);simpa[Zd,Nat.add_comm 1 i]using this
theorem oU {w:World}{b off:Nat}:lD w b off []:=fun i hi=>absurd hi (by simp)
theorem tw {w:World}{b:Nat}(a l:Int)(v:Bool)(hv:bq a l=v)(h0:w.cell? ⟨b,0,none⟩=some (.int .i64 a))(h1:w.cell? ⟨b,1,none⟩=some (.int .i64 l)):
 Calls prog 252 #[.slice (some ⟨b,0,none⟩) 1 1] w fun e w'=>e= .returned (.bool v)∧cW w w':=by
 have h:Sl (fun _=>True) w 2 Pfx.R (some ⟨b,0,none⟩) 1 [(⟨a,l⟩:Pfx)]:=by
  refine⟨by simp,by omega,fun i hi=>?_⟩;match i with
  |0=>exact⟨b,0,_,rfl,trivial,rfl,rfl,fP h0 (fP h1 oU)⟩
 refine(zG h).mono fun e w' hh=>⟨hh.1.trans (dw ?_),hh.2⟩;rw[←hv];simp[bq,Pfx.chk]
theorem FK {w:World}{b:Nat}(a l c m:Int)(v:Bool)(hv:(bq a l&&bq c m)=v)(h0:w.cell? ⟨b,0,none⟩=some (.int .i64 a))(h1:w.cell? ⟨b,1,none⟩=some (.int .i64 l))
 (h2:w.cell? ⟨b,2,none⟩=some (.int .i64 c)) (h3:w.cell? ⟨b,3,none⟩=some (.int .i64 m)):
 Calls prog 252 #[.slice (some ⟨b,0,none⟩) 2 2] w fun e w'=>e= .returned (.bool v)∧cW w w':=by
 have h:Sl (fun _=>True) w 2 Pfx.R (some ⟨b,0,none⟩) 2 [(⟨a,l⟩:Pfx),⟨c,m⟩]:=by
  refine⟨by simp,by omega,fun i hi=>?_⟩;match i with
  |0=>exact⟨b,0,_,rfl,trivial,rfl,rfl,fP h0 (fP h1 oU)⟩
  |1=>exact⟨b,0,_,rfl,trivial,rfl,rfl,fP h2 (fP h3 oU)⟩
 refine(zG h).mono fun e w' hh=>⟨hh.1.trans (dw ?_),hh.2⟩;rw[←hv];simp[bq,Pfx.chk]
theorem Jd (x y:BitVec 64):(x&&& ~~~y).toNat=x.toNat - (x&&& y).toNat:=by
 have h1:(x&&& ~~~y)&&& (x&&& y)=0#64:=by
  ext i hi
  simp only[BitVec.getElem_and,BitVec.getElem_not,BitVec.getElem_zero];cases x[i]<;>cases y[i]<;>rfl
 have h2:(x&&& ~~~y)+(x&&& y)=x:=by
  rw[BitVec.add_eq_or_of_and_eq_zero _ _ h1];ext i hi
  simp only[BitVec.getElem_and,BitVec.getElem_not,BitVec.getElem_or];cases x[i]<;>cases y[i]<;>rfl
 have h4:=BitVec.toNat_add_of_and_eq_zero h1;rw[h2]at h4;omega
theorem wC (a l:Int)(h0:0≤a)(h1:a≤65535)(h2:0≤l):bits .andNot .i64 a (FA l)=a - a % gh l:=by
 obtain⟨n,rfl⟩:=ZE h0;have hm:=qJ l h2;rw[A3]at hm ⊢;show IntKind.i64.wrap ((BitVec.ofInt 64 (n:Int)&&& ~~~ BitVec.ofInt 64 _).toNat:Int)=_;rw[Jd,BitVec.toNat_and,ki n (by omega),ki _ (by omega),Nat.and_two_pow_sub_one_eq_mod,IntKind.wrap_i64];have:=Nat.mod_le n (2 ^ (16 - l).toNat);unfold gh;have h9:((n:Int) % 2 ^ (16 - l).toNat)=((n % 2 ^ (16 - l).toNat:Nat):Int):=by simp
 omega
def uq (a l:Int):Int:=if bq a l=true then gh l else 0
theorem Du (a l:Int)(w:World):
 Calls prog 203 #[.agg #[.int .i64 a,.int .i64 l]] w fun e w'=>e= .returned (.int .i64 (uq a l))∧cW w w':=by
 cases hA:bq a l
 case false=>
  have hs:uq a l=0:=by simp[uq,hA]
  rw[hs];have hv:=Xk hA;go_enter func203,ntmps203
  go_wp2_with (first|(go_at_call 252;refine(tw a l _ hv.out ?_ ?_).mono ?_;go_simp;go_simp;rintro e w1 ⟨rfl,bV⟩))
  go_ret
  refine⟨rfl,Bel.bel (B:=_) ?_⟩;(repeat(first|with_reducible assumption|with_reducible exact Bel.refl _|with_reducible refine Bel.alloc ?_ _|with_reducible refine Bel.drewN ?_ _|with_reducible refine Bel.drew ?_|(with_reducible refine ak ?_ ?_ _;rotate_left;(first|omega|(simp;done)|(simp;omega)))|(with_reducible refine Bel.setCell ?_ (p:=_) ?_ _;rotate_left;(first|(simp;done)|omega|(simp;omega)))|refine Bel.call ?_ (by assumption)|(refine EX.bel ?_ (by assumption) ?_;rotate_left;(first|omega|(simp;omega)))))
 case true=>
  have hs:uq a l=FA l+1:=by simp[uq,hA,FA,gh]
  rw[hs];have hv:=Xk hA;obtain⟨g1,g2,g3,g4,-⟩:=dx hA;obtain⟨z1,z2⟩:=qJ l g1;go_enter func203,ntmps203
  go_wp2_with (first|(go_at_call 252;refine(tw a l _ hv.out ?_ ?_).mono ?_;go_simp;go_simp;rintro e w1 ⟨rfl,bV⟩;obtain⟨bR,bW⟩:=aI bV;simp only[Xr]at bR bW)|(go_at_call 235;refine(oM _ _ g1 g2).mono ?_;rintro e w2 ⟨rfl,rfl⟩))
  go_ret
  refine⟨rfl,Bel.bel (B:=_) ?_⟩;(repeat(first|with_reducible assumption|with_reducible exact Bel.refl _|with_reducible refine Bel.alloc ?_ _|with_reducible refine Bel.drewN ?_ _|with_reducible refine Bel.drew ?_|(with_reducible refine ak ?_ ?_ _;rotate_left;(first|omega|(simp;done)|(simp;omega)))|(with_reducible refine Bel.setCell ?_ (p:=_) ?_ _;rotate_left;(first|(simp;done)|omega|(simp;omega)))|refine Bel.call ?_ (by assumption)|(refine EX.bel ?_ (by assumption) ?_;rotate_left;(first|omega|(simp;omega)))))
end
section
variable {P:Program}{ops:Array Oper}{Q:Exit→Act→World→Prop}
def GO (P:Program)(ops:Array Oper)(Q:Exit→Act→World→Prop):Nat→Array Bool→Act→World→Prop
 |0,listed,a,W=>Region.ready .any ops listed=[]∧∀w,cW W w→Q .normal a w
 |fuel+1,listed,a,W=>∀w,cW W w→(Region.ready .any ops listed=[]→Q .normal a w)∧
  ∀i∈Region.ready .any ops listed,wpOp P ops Q i (fun a' w'=>cW w w'∧GO P ops Q fuel (listed.setIfInBounds i true) a' w') a w
theorem GO.world:∀{fuel:Nat}{listed:Array Bool}{a:Act}{W W':World},cW W W'→GO P ops Q fuel listed a W→GO P ops Q fuel listed a W'
 |0,_,_,_,_,hx,h=>⟨h.1,fun w hw=>h.2 w (ag hx hw)⟩
 |_+1,_,_,_,_,hx,h=>fun w hw=>h w (ag hx hw)
theorem GO.any:∀{fuel:Nat}{listed:Array Bool}{a:Act}{W:World},GO P ops Q fuel listed a W→wpAny P .any ops Q fuel listed a W
 |0,_,_,_,h=>⟨h.1,h.2 _ (Below.refl _ _)⟩
 |_+1,_,_,W,h=>⟨(h W (Below.refl _ _)).1,fun i hi=>wpOp_mono (fun _ _ h'=>GO.any h'.2) ((h W (Below.refl _ _)).2 i hi)⟩
def QY (P:Program)(ops:Array Oper)(W:World)(o:Oper)(v:Value)(a:Act):Prop:=
 (Region.wanted o (yielded ops a.tmps)=true∧∀w,cW W w→o.quietAt P a (cW w) w v)∨
 (Region.wanted o (yielded ops a.tmps)=false∧v=undef)
theorem QY.world {W W':World}{o:Oper}{v:Value}{a:Act}(hx:cW W W')(h:QY P ops W o v a):QY P ops W' o v a:=
 h.imp (fun⟨h1,h2⟩=>⟨h1,fun w hw=>h2 w (ag hx hw)⟩) id
theorem QY.of_same {W:World}{o:Oper}{v:Value}{a a':Act}(hy:QY P ops W o v a)(he:execOp a'.eval o=execOp a.eval o)
 (hw:Region.wanted o (yielded ops a'.tmps)=Region.wanted o (yielded ops a.tmps)):QY P ops W o v a':=by
 unfold QY Oper.quietAt at*;rw[he,hw];exact hy
theorem QY.wpOp {W:World}{i:Nat}{o:Oper}{v:Value}{a:Act}(hi:ops[i]? =some o)(hy:QY P ops W o v a){K:Act→World→Prop}{w:World}(hw:cW W w)(h:∀w',cW w w'→K (a.put o.dst v) w'):wpOp P ops Q i K a w:=by
 unfold Go.wpOp;simp only[hi];rcases hy with⟨B7,hv⟩|⟨B7,rfl⟩
 ·simp only[B7,if_true];left;exact Oper.wp_of_quiet (C:=cW w) (K:=fun a'=>a'=a.put o.dst v) (Below.refl _ _) (fun a' w' hw' ha=>ha ▸ h w' hw') ⟨v,fun w'' hw''=>by
   have:=hv w'' (ag hw hw'');unfold Oper.quietAt at*;generalize (execOp a.eval o).run P w''=r at*;cases r with
   |ok n u=>cases n<;>simp only[Oper.quietUpon]at this ⊢<;>first|exact this|exact⟨this.1,this.2.mono fun _ _ ⟨e1,e2⟩=>⟨e1,ag hw'' e2⟩⟩
   |halt x u=>simp only[Oper.quietUpon]at this,rfl⟩
 ·simp only[B7,YY,if_false];exact h w (Below.refl _ _)
theorem Je {W:World}{j:Nat}{oi oj:Oper}{v:Value}(hj:ops[j]? =some oj)(Wa:oi.apart ops oj=true)
 (Km:∀cs b,oi.op≠ .select cs b) (Sx:∀cs b,oj.op≠ .select cs b)
 (hQ:∀c a w,Q (.panic c) (a.put oi.dst v) w→Q (.panic c) a w) {K:Act→World→Prop}{a:Act}{w:World}
 (hy:QY P ops W oi v a) (h:wpOp P ops Q j K (a.put oi.dst v) w):
 wpOp P ops Q j (fun a' w'=>QY P ops W oi v a'∧K (a'.put oi.dst v) w') a w:=by
 obtain⟨h1,h2,h3⟩:=Oper.apart_spec Wa;have keep:∀(a:Act),QY P ops W oi v a→∀u,QY P ops W oi v (a.put oj.dst u):=fun a hy u=>
  hy.of_same (execOp_put oi Km a oj.dst u h3) (wanted_put oi a oj.dst u h3)
 have keepD:∀d,QY P ops W oi v {a with defers:=d::a.defers}:=fun d=>hy.of_same rfl rfl;unfold wpOp at*;simp only[hj]at*;rw[wanted_put oj a oi.dst v h1]at h;split
 ·rename_i hw;simp only[hw,if_true]at h;rcases h with h|⟨uH,EW⟩
  case inr=>exact .inr ⟨by unfold Oper.asks at*;rw[execOp_put oj Sx a oi.dst v h1]at uH;exact uH,EW⟩
  refine .inl ?_;unfold Oper.wp at*;rw[execOp_put oj Sx a oi.dst v h1]at h;generalize (execOp a.eval oj).run P w=r at*;cases r with
  |ok n w'=>
   cases n<;>simp only[Oper.upon]at h ⊢
   case value u=>exact⟨keep a hy u,by rw[←Act.put_comm a v u h2];exact h⟩
   case skip=>exact⟨keep a hy _,by rw[←Act.put_comm a v undef h2];exact h⟩
   case defer d=>
    refine⟨keep _ (keepD d) _,?_⟩;rw[←Act.put_comm _ v undef h2,←Act.put_defers];exact h
   case enter f args=>
    refine Calls.mono h fun e w'' he=>?_;cases e with
    |returned u=>exact⟨keep a hy u,by rw[←Act.put_comm a v u h2];exact he⟩
    |panicked c=>exact hQ _ _ _ he
    |outgrown=>exact he
   case row row args=>exact Rows.mono h fun u w'' he=>⟨keep a hy u,by rw[←Act.put_comm a v u h2];exact he⟩
  |halt x w'=>
   cases x<;>simp only[Oper.upon]at h ⊢
   case panic u=>exact hQ _ _ _ h
 ·rename_i hw;simp only[hw]at h;exact⟨keep a hy _,by rw[←Act.put_comm a v undef h2];exact h⟩
theorem Mp {i:Nat}{oi:Oper}{v:Value}(hi:ops[i]? =some oi)(EY:∀(j:Nat) (o:Oper) cs b,ops[j]? =some o→o.op≠ .select cs b)
 (hQ:∀c a w,Q (.panic c) (a.put oi.dst v) w→Q (.panic c) a w):
 ∀(fuel:Nat) (listed:Array Bool) (a:Act) (W:World),
  (∀j oj,ops[j]? =some oj→j≠i→listed.getD j true=false→(∀e∈oj.after,Region.binds .any e=true→e.on≠i)→oi.apart ops oj=true)→
  i∈Region.ready .any ops listed→QY P ops W oi v a→
  GO P ops Q fuel (listed.setIfInBounds i true) (a.put oi.dst v) W→GO P ops Q (fuel+1) listed a W:=by
 intro fuel;induction fuel with
 |zero=>
  intro listed a W _ hr hy H w hw;refine⟨fun h=>(by rw[h]at hr;cases hr),fun j hj=>?_⟩;by_cases lx:j=i
  ·subst lx;exact hy.wpOp hi hw fun w' hw'=>⟨hw',H.world (ag hw hw')⟩
  ·have:=ready_mono hj lx;rw[H.1]at this;cases this
 |succ fuel ih=>
  intro listed a W uI hr hy H w hw;refine⟨fun h=>(by rw[h]at hr;cases hr),fun j hj=>?_⟩;by_cases lx:j=i
  ·subst lx;exact hy.wpOp hi hw fun w' hw'=>⟨hw',H.world (ag hw hw')⟩
  ·have h1:=(H w hw).2 j (ready_mono hj lx);obtain⟨EZ,oj,OD,bK⟩:=mem_ready.1 hj;have OE:∀e∈oj.after,Region.binds .any e=true→e.on≠i:=fun e he hb heq=>by
    have h1:=bK e he hb;have h0:=(mem_ready.1 hr).1;rw[heq]at h1;rcases XO i listed.size with h'|h'
    ·simp[h']at h0 h1;rw[h0]at h1;cases h1
    ·simp[Yj h']at h1
   have h2:=Je OD (uI j oj OD lx EZ OE) (fun cs b=>EY i oi cs b hi) (fun cs b=>EY j oj cs b OD) hQ (hy.world hw) h1;have xY:∀k ok,ops[k]? =some ok→k≠i→(listed.setIfInBounds j true).getD k true=false→
    (∀e∈ok.after,Region.binds .any e=true→e.on≠i)→oi.apart ops ok=true:=fun k ok hk OF Sy cB=>by
    refine uI k ok hk OF ?_ cB;by_cases BT:j=k
    ·subst BT;exact EZ
    ·rw[getD_set_ne true BT]at Sy;exact Sy
   refine wpOp_mono (fun a' w' h3=>⟨h3.2.1,ih (listed.setIfInBounds j true) a' w' xY (ready_mono hr (Ne.symm lx)) (h3.1.world h3.2.1) ?_⟩) h2;rw[Array.setIfInBounds_comm _ _ lx];exact h3.2.2
def jp (P:Program)(ops:Array Oper)(Q:Exit→Act→World→Prop):List Oper→Nat→Array Bool→Act→World→Prop
 |[],_,_,a,W=>∀w,cW W w→Q .normal a w
 |o::rest,k,listed,a,W=>
  (∃v,QY P ops W o v a∧jp P ops Q rest (k+1) (listed.setIfInBounds k true) (a.put o.dst v) W)∨
  (Region.ready .any ops listed=[k]∧Region.wanted o (yielded ops a.tmps)=true∧∀w,cW W w→o.wp P a w (fun a' w'=>cW w w'∧jp P ops Q rest (k+1) (listed.setIfInBounds k true) a' w') Q)
theorem tz (hs:Region.noSelect ops=true)(hQ:∀c a d v w,Q (.panic c) (a.put d v) w→Q (.panic c) a w):∀(l:List Oper) (k:Nat) (listed:Array Bool) (a:Act) (W:World),(∀j,l[j]? =ops[k+j]?)→
 Region.lexFrom .any ops l.length k listed=true→jp P ops Q l k listed a W→GO P ops Q l.length listed a W
 |[],_,_,_,_,_,hB,h=>⟨by simpa[Region.lexFrom]using hB,h⟩
 |o::l,k,listed,a,W,hl,hB,h=>by
  have h0:ops[k]? =some o:=by simpa using (hl 0).symm
  simp only[XD,Region.lexFrom,Xy]at hB;obtain⟨⟨hr,hf⟩,hB'⟩:=hB;have hl':∀j,l[j]? =ops[k+1+j]? :=fun j=>by have:=hl (j+1);simpa[Zd,Nat.add_comm 1 j]using this
  rcases h with⟨v,hy,hK⟩|⟨di,B7,hK⟩
  ·exact Mp h0 (Region.noSelect_spec hs) (fun c a w=>hQ c a _ _ w) l.length listed a W (Region.free_spec h0 hf) (by simpa using hr) hy (tz hs hQ l (k+1) _ _ _ hl' hB' hK)
  ·intro w hw;refine⟨fun h=>by rw[di]at h;simp at h,fun i hi=>?_⟩;rw[di]at hi;obtain rfl:i=k:=by simpa using hi
   unfold wpOp;simp only[h0,B7,if_true];left;exact Oper.wp_mono (fun a' w' h'=>⟨h'.1,tz hs hQ l (i+1) _ _ _ hl' hB' h'.2⟩) (hK w hw)
theorem cu {id:Nat}{a:Act}{w:World}{l:List Oper}(hm:P.follows .mixedOrders=true)(hB:Region.lexB .any l.toArray=true)(hQ:∀c a d v w,Q (.panic c) (a.put d v) w→Q (.panic c) a w)
 (h:jp P l.toArray Q l 0 (Y9 l.length false) a w):(Code.region id l.toArray true).wp P Q a w:=by
 simp only[Region.lexB,Xy]at hB;refine wp_region_any hm ?_;have h2:=tz hB.1 hQ l 0 (Y9 l.length false) a w (by simp) (by simpa using hB.2) h;have h3:=(h2.world ((Below.refl _ _).drew:cW w w.drew)).any;simpa using h3
section
variable {o:Oper}{rest:List Oper}{k:Nat}{listed:Array Bool}{a:Act}{W:World}
theorem ep (h:∀w,cW W w→Q .normal a w):jp P ops Q [] k listed a W:=h
theorem wD (hw:Region.wanted o (yielded ops a.tmps)=false)(hn:jp P ops Q rest (k+1) (listed.setIfInBounds k true) (a.put o.dst undef) W):jp P ops Q (o::rest) k listed a W:=
 .inl ⟨undef,.inr ⟨hw,rfl⟩,hn⟩
theorem bA {j d:Nat}{v:Value}(hg:o.guard=some (j,true))(hd:(ops[j]?).bind (·.dst)=some d)(hv:a.tmps.toList[d]? =some v)(hb:v= .bool false)(hn:jp P ops Q rest (k+1) (listed.setIfInBounds k true) (a.put o.dst undef) W):jp P ops Q (o::rest) k listed a W:=
 wD (by simp[Region.wanted,hg,fA hd hv hb]) hn
theorem bB {j d:Nat}{v:Value}(hg:o.guard=some (j,false))(hd:(ops[j]?).bind (·.dst)=some d)(hv:a.tmps.toList[d]? =some v)(hb:v= .bool true)(hn:jp P ops Q rest (k+1) (listed.setIfInBounds k true) (a.put o.dst undef) W):jp P ops Q (o::rest) k listed a W:=
 wD (by simp[Region.wanted,hg,fA hd hv hb]) hn
theorem bC {j d:Nat}{v:Value}{b:Bool}(hg:o.guard=some (j,b))(hd:(ops[j]?).bind (·.dst)=some d)(hv:a.tmps.toList[d]? =some v)(hb:v=undef)(hn:jp P ops Q rest (k+1) (listed.setIfInBounds k true) (a.put o.dst undef) W):jp P ops Q (o::rest) k listed a W:=
 wD (by simp[Region.wanted,hg,m6 hd hv hb]) hn
theorem cj {v:Value}(hw:Region.wanted o (yielded ops a.tmps)=true)(h:∀w,cW W w→∀R:Value→Prop,R v→UJ P w w R ((execOp a.eval o).run P w))
 (hn:jp P ops Q rest (k+1) (listed.setIfInBounds k true) (a.put o.dst v) W):jp P ops Q (o::rest) k listed a W:=
 .inl ⟨v,.inl ⟨hw,fun w hw=>sO (h w hw)⟩,hn⟩
theorem iW (hr:Region.ready .any ops listed=[k])(hw:Region.wanted o (yielded ops a.tmps)=true)
 (h:∀w,cW W w→∀K:Act→World→Prop,(∀a' w',cW w w'→jp P ops Q rest (k+1) (listed.setIfInBounds k true) a' w'→K a' w')→o.wp P a w K Q):jp P ops Q (o::rest) k listed a W:=
 .inr ⟨hr,hw,fun w hw=>h w hw _ fun _ _ h1 h2=>⟨h1,h2⟩⟩
end
theorem jS {f:FuncId}{args:Array Value}{w:World}{R:Value→Prop}{v:Value}(h:Calls P f args w fun e w'=>e= .returned v∧cW w w')(hR:R v):Calls P f args w (B8 w R):=
 h.mono fun _ _ ⟨he,hx⟩=>⟨⟨v,he,hR⟩,hx⟩
theorem qL {f:FuncId}{args:Array Value}{w:World}{R:Value→Prop}{v:Value}(h:Calls P f args w fun e w'=>e= .returned v∧w=w')(hR:R v):Calls P f args w (B8 w R):=
 h.mono fun _ _ ⟨he,hx⟩=>⟨⟨v,he,hR⟩,hx ▸ Below.refl _ _⟩
end
section
open Go.Proofs
def oV (a l b m:Int):Bool:=bq a l&&bq b m&&decide (m≤l)&&(a - a % gh m==b)
theorem kI (a l b m:Int)(w:World):
 Calls prog 189 #[.agg #[.int .i64 a,.int .i64 l],.agg #[.int .i64 b,.int .i64 m]] w fun e w'=>e= .returned (.bool (oV a l b m))∧cW w w':=by
 cases hA:(bq a l&&bq b m)
 case false=>
  have hs:oV a l b m=false:=by simp[oV,hA]
  rw[hs];have hv:=Xk hA;clear hA hs;go_enter func189,ntmps189
  go_wp2_with fail
  refine cu (by kernel_rfl) (by kernel_rfl) (fun _ _ d _ _ h=>by cases d<;>exact h) ?_;repeat(first|((first|refine bA rfl rfl rfl (by with_reducible rfl) ?_|refine bB rfl rfl rfl (by with_reducible rfl) ?_|refine bC rfl rfl rfl (by with_reducible rfl) ?_);simp only[Act.put,Xn,Xv,Xw])|(apply cj;(first|exact bp rfl|exact bE rfl rfl rfl (by with_reducible rfl));intro wq cE R hR;((have ee:=(aI cE).1;(try simp only[Xr,aa,Xu,Xs]at ee));go_simp;first|exact hR|(fail));simp only[Act.put,Xn,Xv,Xw]))
  refine iW (by kernel_rfl) (by first|exact bp rfl|exact bE rfl rfl rfl (by with_reducible rfl)) (fun w1 bV K hK=>?_);obtain⟨bR,bW⟩:=aI bV;have ce:=bw bV;(try simp only[Xr,aa,Xu,Xs]at bR bW ce)
  (try have l0w1:w.heap.size≤w1.heap.size:=by omega)
  (try have l1w1:w.heap.size < w1.heap.size:=by omega)
  (try have l2w1:w.heap.size+1 < w1.heap.size:=by omega)
  go_simp
  refine hK _ _ (Bel.bel (B:=_) ?_) ?_
  ·(repeat(first|with_reducible assumption|with_reducible exact Bel.refl _|with_reducible refine Bel.alloc ?_ _|with_reducible refine Bel.drewN ?_ _|with_reducible refine Bel.drew ?_|(with_reducible refine ak ?_ ?_ _;rotate_left;(first|omega|(simp;done)|(simp;omega)))|(with_reducible refine Bel.setCell ?_ (p:=_) ?_ _;rotate_left;(first|(simp;done)|omega|(simp;omega)))|refine Bel.call ?_ (by assumption)|(refine EX.bel ?_ (by assumption) ?_;rotate_left;(first|omega|(simp;omega)))))
  clear hK K;repeat(first|((first|refine bA rfl rfl rfl (by with_reducible rfl) ?_|refine bB rfl rfl rfl (by with_reducible rfl) ?_|refine bC rfl rfl rfl (by with_reducible rfl) ?_);simp only[Act.put,Xn,Xv,Xw])|(apply cj;(first|exact bp rfl|exact bE rfl rfl rfl (by with_reducible rfl));intro wq cE R hR;((have ee:=(aI cE).1;(try simp only[Xr,aa,Xu,Xs]at ee));go_simp;first|exact hR|((go_at_call 252;refine jS (FK a l b m _ hv.out ?_ ?_ ?_ ?_) hR;go_simp;go_simp;go_simp;go_simp)));simp only[Act.put,Xn,Xv,Xw]))
  refine ep ?_;intro w2 cI;obtain⟨d8,dX⟩:=aI cI;have d4:=bw cI;(try simp only[Xr,aa,Xu,Xs]at d8 dX d4)
  go_wp2_with fail
  go_ret
  refine⟨rfl,Bel.bel (B:=_) ?_⟩;(repeat(first|with_reducible assumption|with_reducible exact Bel.refl _|with_reducible refine Bel.alloc ?_ _|with_reducible refine Bel.drewN ?_ _|with_reducible refine Bel.drew ?_|(with_reducible refine ak ?_ ?_ _;rotate_left;(first|omega|(simp;done)|(simp;omega)))|(with_reducible refine Bel.setCell ?_ (p:=_) ?_ _;rotate_left;(first|(simp;done)|omega|(simp;omega)))|refine Bel.call ?_ (by assumption)|(refine EX.bel ?_ (by assumption) ?_;rotate_left;(first|omega|(simp;omega)))))
 case true=>
  have hA':=hA;simp only[Xy]at hA';obtain⟨g1,g2,g3,g4,-⟩:=dx hA'.1;obtain⟨k1,k2,k3,k4,-⟩:=dx hA'.2;obtain⟨z1,z2⟩:=qJ m k1;have hv:=Xk hA;by_cases hm:m≤l
  ·have hs:oV a l b m=(a - a % gh m==b):=by simp[oV,hA,hm]
   rw[hs];have han:=wC a m g3 g4 k1;have hmI:decide (m≤l)=true:=by simp[hm]
   clear hA hA' hs hm;cases hE:(a - a % gh m==b);all_goals
    go_enter func189,ntmps189
    go_wp2_with fail
    refine cu (by kernel_rfl) (by kernel_rfl) (fun _ _ d _ _ h=>by cases d<;>exact h) ?_;repeat(first|((first|refine bA rfl rfl rfl (by with_reducible rfl) ?_|refine bB rfl rfl rfl (by with_reducible rfl) ?_|refine bC rfl rfl rfl (by with_reducible rfl) ?_);simp only[Act.put,Xn,Xv,Xw])|(apply cj;(first|exact bp rfl|exact bE rfl rfl rfl (by with_reducible rfl));intro wq cE R hR;((have ee:=(aI cE).1;(try simp only[Xr,aa,Xu,Xs]at ee));go_simp;first|exact hR|(fail));simp only[Act.put,Xn,Xv,Xw]))
    refine iW (by kernel_rfl) (by first|exact bp rfl|exact bE rfl rfl rfl (by with_reducible rfl)) (fun w1 bV K hK=>?_);obtain⟨bR,bW⟩:=aI bV;have ce:=bw bV;(try simp only[Xr,aa,Xu,Xs]at bR bW ce)
    (try have l0w1:w.heap.size≤w1.heap.size:=by omega)
    (try have l1w1:w.heap.size < w1.heap.size:=by omega)
    (try have l2w1:w.heap.size+1 < w1.heap.size:=by omega)
    go_simp
    refine hK _ _ (Bel.bel (B:=_) ?_) ?_
    ·(repeat(first|with_reducible assumption|with_reducible exact Bel.refl _|with_reducible refine Bel.alloc ?_ _|with_reducible refine Bel.drewN ?_ _|with_reducible refine Bel.drew ?_|(with_reducible refine ak ?_ ?_ _;rotate_left;(first|omega|(simp;done)|(simp;omega)))|(with_reducible refine Bel.setCell ?_ (p:=_) ?_ _;rotate_left;(first|(simp;done)|omega|(simp;omega)))|refine Bel.call ?_ (by assumption)|(refine EX.bel ?_ (by assumption) ?_;rotate_left;(first|omega|(simp;omega)))))
    clear hK K;repeat(first|((first|refine bA rfl rfl rfl (by with_reducible rfl) ?_|refine bB rfl rfl rfl (by with_reducible rfl) ?_|refine bC rfl rfl rfl (by with_reducible rfl) ?_);simp only[Act.put,Xn,Xv,Xw])|(apply cj;(first|exact bp rfl|exact bE rfl rfl rfl (by with_reducible rfl));intro wq cE R hR;((have ee:=(aI cE).1;(try simp only[Xr,aa,Xu,Xs]at ee));go_simp;first|exact hR|(first|(go_at_call 252;refine jS (FK a l b m _ hv.out ?_ ?_ ?_ ?_) hR;go_simp;go_simp;go_simp;go_simp)|(go_at_call 235;exact qL (oM _ _ k1 k2) hR)));simp only[Act.put,Xn,Xv,Xw]))
    refine ep ?_;intro w2 cI;obtain⟨d8,dX⟩:=aI cI;have d4:=bw cI;(try simp only[Xr,aa,Xu,Xs]at d8 dX d4)
    go_wp2_with fail
    go_ret
    refine⟨rfl,Bel.bel (B:=_) ?_⟩;(repeat(first|with_reducible assumption|with_reducible exact Bel.refl _|with_reducible refine Bel.alloc ?_ _|with_reducible refine Bel.drewN ?_ _|with_reducible refine Bel.drew ?_|(with_reducible refine ak ?_ ?_ _;rotate_left;(first|omega|(simp;done)|(simp;omega)))|(with_reducible refine Bel.setCell ?_ (p:=_) ?_ _;rotate_left;(first|(simp;done)|omega|(simp;omega)))|refine Bel.call ?_ (by assumption)|(refine EX.bel ?_ (by assumption) ?_;rotate_left;(first|omega|(simp;omega)))))
  ·have hs:oV a l b m=false:=by simp[oV,hA,hm]
   rw[hs];have hmI:decide (m≤l)=false:=by simp[hm]
   clear hA hA' hs hm;go_enter func189,ntmps189
   go_wp2_with fail
   refine cu (by kernel_rfl) (by kernel_rfl) (fun _ _ d _ _ h=>by cases d<;>exact h) ?_;repeat(first|((first|refine bA rfl rfl rfl (by with_reducible rfl) ?_|refine bB rfl rfl rfl (by with_reducible rfl) ?_|refine bC rfl rfl rfl (by with_reducible rfl) ?_);simp only[Act.put,Xn,Xv,Xw])|(apply cj;(first|exact bp rfl|exact bE rfl rfl rfl (by with_reducible rfl));intro wq cE R hR;((have ee:=(aI cE).1;(try simp only[Xr,aa,Xu,Xs]at ee));go_simp;first|exact hR|(fail));simp only[Act.put,Xn,Xv,Xw]))
   refine iW (by kernel_rfl) (by first|exact bp rfl|exact bE rfl rfl rfl (by with_reducible rfl)) (fun w1 bV K hK=>?_);obtain⟨bR,bW⟩:=aI bV;have ce:=bw bV;(try simp only[Xr,aa,Xu,Xs]at bR bW ce)
   (try have l0w1:w.heap.size≤w1.heap.size:=by omega)
   (try have l1w1:w.heap.size < w1.heap.size:=by omega)
   (try have l2w1:w.heap.size+1 < w1.heap.size:=by omega)
   go_simp
   refine hK _ _ (Bel.bel (B:=_) ?_) ?_
   ·(repeat(first|with_reducible assumption|with_reducible exact Bel.refl _|with_reducible refine Bel.alloc ?_ _|with_reducible refine Bel.drewN ?_ _|with_reducible refine Bel.drew ?_|(with_reducible refine ak ?_ ?_ _;rotate_left;(first|omega|(simp;done)|(simp;omega)))|(with_reducible refine Bel.setCell ?_ (p:=_) ?_ _;rotate_left;(first|(simp;done)|omega|(simp;omega)))|refine Bel.call ?_ (by assumption)|(refine EX.bel ?_ (by assumption) ?_;rotate_left;(first|omega|(simp;omega)))))
   clear hK K;repeat(first|((first|refine bA rfl rfl rfl (by with_reducible rfl) ?_|refine bB rfl rfl rfl (by with_reducible rfl) ?_|refine bC rfl rfl rfl (by with_reducible rfl) ?_);simp only[Act.put,Xn,Xv,Xw])|(apply cj;(first|exact bp rfl|exact bE rfl rfl rfl (by with_reducible rfl));intro wq cE R hR;((have ee:=(aI cE).1;(try simp only[Xr,aa,Xu,Xs]at ee));go_simp;first|exact hR|((go_at_call 252;refine jS (FK a l b m _ hv.out ?_ ?_ ?_ ?_) hR;go_simp;go_simp;go_simp;go_simp)));simp only[Act.put,Xn,Xv,Xw]))
   refine ep ?_;intro w2 cI;obtain⟨d8,dX⟩:=aI cI;have d4:=bw cI;(try simp only[Xr,aa,Xu,Xs]at d8 dX d4)
   go_wp2_with fail
   go_ret
   refine⟨rfl,Bel.bel (B:=_) ?_⟩;(repeat(first|with_reducible assumption|with_reducible exact Bel.refl _|with_reducible refine Bel.alloc ?_ _|with_reducible refine Bel.drewN ?_ _|with_reducible refine Bel.drew ?_|(with_reducible refine ak ?_ ?_ _;rotate_left;(first|omega|(simp;done)|(simp;omega)))|(with_reducible refine Bel.setCell ?_ (p:=_) ?_ _;rotate_left;(first|(simp;done)|omega|(simp;omega)))|refine Bel.call ?_ (by assumption)|(refine EX.bel ?_ (by assumption) ?_;rotate_left;(first|omega|(simp;omega)))))
end
end Go.Proofs.YtojojebildofnaaGreatDoor
