/- Texts of this work, joined. -/
import Derived.Test.YtojojebildofnaaGreatDoorZHDeskShows2
import Derived.Shelf.Slices.SearchI
import Derived.IntWalk
import Derived.RangeFuncNested
import Derived.RangeFuncBound
import Derived.RangeFuncCalls
import Derived.RangeFuncLeaves
import Derived.Shelf.Abstract
import Derived.Shelf.RegionOpen
import Derived.OwnWalkIn
import Derived.TacticsInMore
import Derived.LoopNIn
import Derived.LoopIn
set_option linter.unusedSimpArgs false
set_option linter.unusedVariables false
set_option maxRecDepth 100000
set_option maxHeartbeats 16000000
namespace Go.Proofs.YtojojebildofnaaGreatDoor
open Go Go.RowKit Go.Proofs.Tryz
open _root_.List renaming getElem?_eq_getElem → Xj, mem_of_getElem? → Xl, map_cons → Xm, setIfInBounds_toArray → Xn, getElem?_eq_some_iff → Xo, length_take → Xp, take_length → Xq, length_append → Xt, set_cons_zero → Xv, set_cons_succ → Xw, map_nil → Xx, map_append → Xz, getElem?_map → XA, all_eq_true → XB, length_cons → XD, getD_eq_getElem?_getD → XE, length_map → XF, mem_map → XH, take_of_length_le → XI, pairwise_iff_getElem → XM, getElem?_eq_none → XN, getElem?_append_right → XP, getElem?_take_of_lt → XQ, replicate → XR, length_drop → XS, append_assoc → XT, findIdx?_eq_some_iff_getElem → XV, mem_cons → XY, eq_nil_of_length_eq_zero → XZ, range → X3, mem_append → X4, getElem?_append_left → X5, cons_append → X6, mem_singleton → X7, length_nil → X8, append_nil → Ya, mem_of_mem_drop → Yb, mem_of_mem_take → Yc, any_eq_true → Yd, nil_append → Ye, mem_iff_getElem → Yf, getElem_mem → Ym, any_eq_false → Yw, findIdx?_eq_none_iff → Yx, size_toArray → YB, take → YD, find?_eq_none → YF, foldl_cons → YG, pairwise_cons → YM, mem_of_find?_eq_some → YO, mem_range → YP, take_append_drop → YU, drop_eq_getElem_cons → YV, all_eq_false → YX, flatMap_append → Y1, pairwise_map → Y5, mem_map_of_mem → Za, set_append_right → Zc, drop_length → Zf, find?_eq_some_iff_getElem → Zg, length_pos_iff → Zh, filter_filter → Zj, pairwise_append → Zp, take_succ_eq_append_getElem → Zq, foldl_append → Zr, mem_filter → Zt, find?_some → Zv, length_filter_le → Zw, map_take → Zz, flatMap_cons → ZF, append_toArray → ZJ, all_append → ZU, mem_append_left → ZW, getElem_take → ZX, push_toArray → ZZ, getElem_map → Z4, filter_congr → B', nodup_append → X', take_sublist → Y'
open Go.Lib renaming hid → Xk
open Go.World renaming size_alloc → Xr, heap_drewN → Xs, size_drew → Xu, cell? → YQ, cell?_of_block → Zn, ownsRow_nil → Q'
open _root_.Bool renaming and_eq_true → Xy, eq_iff_iff → Yl, and_self → Yn, and_true → Yz, true_and → YC, eq_false_iff → YK, false_eq_true → YY, or_eq_false_iff → Zo, not_eq_true' → ZV, false_or → Z0, and_assoc → Z'
open _root_.Nat renaming le_refl → XC, zero_add → XK, zero_le → XL, lt_or_ge → XO, reduceAdd → XU, add_zero → X0, sub_zero → Yr, lt_of_lt_of_le → Yt, le_trans → Yu, not_lt_zero → YT, lt_trichotomy → Y4, sub_self → Y8, add_assoc → Zd, eq_zero_or_pos → Zl, add_mul → Zu, zero_lt_succ → ZM, div_add_mod → ZT, reduceLT → ZY, min_self → z', le_of_lt → G', reduceSub → O', lt_or_eq_of_le → _j, le_of_lt_succ → _l
open _root_.Option renaming map_eq_some_iff → XG, isSome_some → XJ, some → XX, map_some → Yg, isNone_some → Yv, getD_some → Yy, isSome_none → YL, map_none → Zi, isNone_none → Zm, isSome_iff_exists → Zy
open _root_.Array renaming getElem?_eq_none → Yj, getElem?_eq_getElem → YN, replicate → Y9, replicate_succ → ZC, replicate_zero → ZD
open _root_.Int renaming lt_irrefl → YZ, eq_ofNat_of_zero_le → ZE, dvd_of_emod_eq_zero → ZG, fdiv_eq_ediv_of_nonneg → ZP, pow_succ → _o
open _root_.ByteArray renaming size_extract → Y7
section
open Go.Proofs
def lI (a l x:Int):Bool:=bq a l&&(decide (0≤x)&&(decide (x≤65535)&&(x - x % gh l==a)))
theorem Jf (a l x:Int)(w:World):
 Calls prog 310 #[.agg #[.int .i64 a,.int .i64 l],.int .i64 x] w fun e w'=>e= .returned (.bool (lI a l x))∧cW w w':=by
 cases hA:bq a l
 case false=>
  have hs:lI a l x=false:=by simp[lI,hA]
  rw[hs];have hv:=Xk hA;clear hA hs;go_enter func310,ntmps310
  go_wp2_with fail
  refine cu (by kernel_rfl) (by kernel_rfl) (fun _ _ d _ _ h=>by cases d<;>exact h) ?_;repeat(first|((first|refine bA rfl rfl rfl (by with_reducible rfl) ?_|refine bB rfl rfl rfl (by with_reducible rfl) ?_|refine bC rfl rfl rfl (by with_reducible rfl) ?_);simp only[Act.put,Xn,Xv,Xw])|(apply cj;(first|exact bp rfl|exact bE rfl rfl rfl (by with_reducible rfl));intro wq cE R hR;((have ee:=(aI cE).1;(try simp only[Xr,aa,Xu,Xs]at ee));go_simp;first|exact hR|(fail));simp only[Act.put,Xn,Xv,Xw]))
  refine iW (by kernel_rfl) (by first|exact bp rfl|exact bE rfl rfl rfl (by with_reducible rfl)) (fun w1 bV K hK=>?_);obtain⟨bR,bW⟩:=aI bV;have ce:=bw bV;(try simp only[Xr,aa,Xu,Xs]at bR bW ce)
  (try have l0w1:w.heap.size≤w1.heap.size:=by omega)
  (try have l1w1:w.heap.size < w1.heap.size:=by omega)
  (try have l2w1:w.heap.size+1 < w1.heap.size:=by omega)
  go_simp
  refine hK _ _ (Bel.bel (B:=_) ?_) ?_
  ·(repeat(first|with_reducible assumption|with_reducible exact Bel.refl _|with_reducible refine Bel.alloc ?_ _|with_reducible refine Bel.drewN ?_ _|with_reducible refine Bel.drew ?_|(with_reducible refine ak ?_ ?_ _;rotate_left;(first|omega|(simp;done)|(simp;omega)))|(with_reducible refine Bel.setCell ?_ (p:=_) ?_ _;rotate_left;(first|(simp;done)|omega|(simp;omega)))|refine Bel.call ?_ (by assumption)|(refine EX.bel ?_ (by assumption) ?_;rotate_left;(first|omega|(simp;omega)))))
  clear hK K;repeat(first|((first|refine bA rfl rfl rfl (by with_reducible rfl) ?_|refine bB rfl rfl rfl (by with_reducible rfl) ?_|refine bC rfl rfl rfl (by with_reducible rfl) ?_);simp only[Act.put,Xn,Xv,Xw])|(apply cj;(first|exact bp rfl|exact bE rfl rfl rfl (by with_reducible rfl));intro wq cE R hR;((have ee:=(aI cE).1;(try simp only[Xr,aa,Xu,Xs]at ee));go_simp;first|exact hR|((go_at_call 252;refine jS (tw a l _ hv.out ?_ ?_) hR;go_simp;go_simp)));simp only[Act.put,Xn,Xv,Xw]))
  refine ep ?_;intro w2 cI;obtain⟨d8,dX⟩:=aI cI;have d4:=bw cI;(try simp only[Xr,aa,Xu,Xs]at d8 dX d4)
  go_wp2_with fail
  go_ret
  refine⟨rfl,Bel.bel (B:=_) ?_⟩;(repeat(first|with_reducible assumption|with_reducible exact Bel.refl _|with_reducible refine Bel.alloc ?_ _|with_reducible refine Bel.drewN ?_ _|with_reducible refine Bel.drew ?_|(with_reducible refine ak ?_ ?_ _;rotate_left;(first|omega|(simp;done)|(simp;omega)))|(with_reducible refine Bel.setCell ?_ (p:=_) ?_ _;rotate_left;(first|(simp;done)|omega|(simp;omega)))|refine Bel.call ?_ (by assumption)|(refine EX.bel ?_ (by assumption) ?_;rotate_left;(first|omega|(simp;omega)))))
 case true=>
  obtain⟨g1,g2,g3,g4,-⟩:=dx hA;obtain⟨z1,z2⟩:=qJ l g1;have hv:=Xk hA;by_cases h0:0≤x
  ·by_cases h1:x≤65535
   ·have hs:lI a l x=(x - x % gh l==a):=by simp[lI,hA,h0,h1]
    rw[hs];have han:=wC x l h0 h1 g1;have Xa:decide (0≤x)=true:=by simp[h0]
    have h1I:decide (x≤65535)=true:=by simp[h1]
    clear hA hs;cases hE:(x - x % gh l==a);all_goals
     go_enter func310,ntmps310
     go_wp2_with fail
     refine cu (by kernel_rfl) (by kernel_rfl) (fun _ _ d _ _ h=>by cases d<;>exact h) ?_;repeat(first|((first|refine bA rfl rfl rfl (by with_reducible rfl) ?_|refine bB rfl rfl rfl (by with_reducible rfl) ?_|refine bC rfl rfl rfl (by with_reducible rfl) ?_);simp only[Act.put,Xn,Xv,Xw])|(apply cj;(first|exact bp rfl|exact bE rfl rfl rfl (by with_reducible rfl));intro wq cE R hR;((have ee:=(aI cE).1;(try simp only[Xr,aa,Xu,Xs]at ee));go_simp;first|exact hR|(fail));simp only[Act.put,Xn,Xv,Xw]))
     refine iW (by kernel_rfl) (by first|exact bp rfl|exact bE rfl rfl rfl (by with_reducible rfl)) (fun w1 bV K hK=>?_);obtain⟨bR,bW⟩:=aI bV;have ce:=bw bV;(try simp only[Xr,aa,Xu,Xs]at bR bW ce)
     (try have l0w1:w.heap.size≤w1.heap.size:=by omega)
     (try have l1w1:w.heap.size < w1.heap.size:=by omega)
     (try have l2w1:w.heap.size+1 < w1.heap.size:=by omega)
     go_simp
     refine hK _ _ (Bel.bel (B:=_) ?_) ?_
     ·(repeat(first|with_reducible assumption|with_reducible exact Bel.refl _|with_reducible refine Bel.alloc ?_ _|with_reducible refine Bel.drewN ?_ _|with_reducible refine Bel.drew ?_|(with_reducible refine ak ?_ ?_ _;rotate_left;(first|omega|(simp;done)|(simp;omega)))|(with_reducible refine Bel.setCell ?_ (p:=_) ?_ _;rotate_left;(first|(simp;done)|omega|(simp;omega)))|refine Bel.call ?_ (by assumption)|(refine EX.bel ?_ (by assumption) ?_;rotate_left;(first|omega|(simp;omega)))))
     clear hK K;repeat(first|((first|refine bA rfl rfl rfl (by with_reducible rfl) ?_|refine bB rfl rfl rfl (by with_reducible rfl) ?_|refine bC rfl rfl rfl (by with_reducible rfl) ?_);simp only[Act.put,Xn,Xv,Xw])|(apply cj;(first|exact bp rfl|exact bE rfl rfl rfl (by with_reducible rfl));intro wq cE R hR;((have ee:=(aI cE).1;(try simp only[Xr,aa,Xu,Xs]at ee));go_simp;first|exact hR|(first|(go_at_call 252;refine jS (tw a l _ hv.out ?_ ?_) hR;go_simp;go_simp)|(go_at_call 235;exact qL (oM _ _ g1 g2) hR)));simp only[Act.put,Xn,Xv,Xw]))
     refine ep ?_;intro w2 cI;obtain⟨d8,dX⟩:=aI cI;have d4:=bw cI;(try simp only[Xr,aa,Xu,Xs]at d8 dX d4)
     go_wp2_with fail
     go_ret
     refine⟨rfl,Bel.bel (B:=_) ?_⟩;(repeat(first|with_reducible assumption|with_reducible exact Bel.refl _|with_reducible refine Bel.alloc ?_ _|with_reducible refine Bel.drewN ?_ _|with_reducible refine Bel.drew ?_|(with_reducible refine ak ?_ ?_ _;rotate_left;(first|omega|(simp;done)|(simp;omega)))|(with_reducible refine Bel.setCell ?_ (p:=_) ?_ _;rotate_left;(first|(simp;done)|omega|(simp;omega)))|refine Bel.call ?_ (by assumption)|(refine EX.bel ?_ (by assumption) ?_;rotate_left;(first|omega|(simp;omega)))))
   ·have hs:lI a l x=false:=by simp[lI,h1]
    rw[hs];have Xa:decide (0≤x)=true:=by simp[h0]
    have h1I:decide (x≤65535)=false:=by simp[h1]
    clear hA hs h1;go_enter func310,ntmps310
    go_wp2_with fail
    refine cu (by kernel_rfl) (by kernel_rfl) (fun _ _ d _ _ h=>by cases d<;>exact h) ?_;repeat(first|((first|refine bA rfl rfl rfl (by with_reducible rfl) ?_|refine bB rfl rfl rfl (by with_reducible rfl) ?_|refine bC rfl rfl rfl (by with_reducible rfl) ?_);simp only[Act.put,Xn,Xv,Xw])|(apply cj;(first|exact bp rfl|exact bE rfl rfl rfl (by with_reducible rfl));intro wq cE R hR;((have ee:=(aI cE).1;(try simp only[Xr,aa,Xu,Xs]at ee));go_simp;first|exact hR|(fail));simp only[Act.put,Xn,Xv,Xw]))
    refine iW (by kernel_rfl) (by first|exact bp rfl|exact bE rfl rfl rfl (by with_reducible rfl)) (fun w1 bV K hK=>?_);obtain⟨bR,bW⟩:=aI bV;have ce:=bw bV;(try simp only[Xr,aa,Xu,Xs]at bR bW ce)
    (try have l0w1:w.heap.size≤w1.heap.size:=by omega)
    (try have l1w1:w.heap.size < w1.heap.size:=by omega)
    (try have l2w1:w.heap.size+1 < w1.heap.size:=by omega)
    go_simp
    refine hK _ _ (Bel.bel (B:=_) ?_) ?_
    ·(repeat(first|with_reducible assumption|with_reducible exact Bel.refl _|with_reducible refine Bel.alloc ?_ _|with_reducible refine Bel.drewN ?_ _|with_reducible refine Bel.drew ?_|(with_reducible refine ak ?_ ?_ _;rotate_left;(first|omega|(simp;done)|(simp;omega)))|(with_reducible refine Bel.setCell ?_ (p:=_) ?_ _;rotate_left;(first|(simp;done)|omega|(simp;omega)))|refine Bel.call ?_ (by assumption)|(refine EX.bel ?_ (by assumption) ?_;rotate_left;(first|omega|(simp;omega)))))
    clear hK K;repeat(first|((first|refine bA rfl rfl rfl (by with_reducible rfl) ?_|refine bB rfl rfl rfl (by with_reducible rfl) ?_|refine bC rfl rfl rfl (by with_reducible rfl) ?_);simp only[Act.put,Xn,Xv,Xw])|(apply cj;(first|exact bp rfl|exact bE rfl rfl rfl (by with_reducible rfl));intro wq cE R hR;((have ee:=(aI cE).1;(try simp only[Xr,aa,Xu,Xs]at ee));go_simp;first|exact hR|((go_at_call 252;refine jS (tw a l _ hv.out ?_ ?_) hR;go_simp;go_simp)));simp only[Act.put,Xn,Xv,Xw]))
    refine ep ?_;intro w2 cI;obtain⟨d8,dX⟩:=aI cI;have d4:=bw cI;(try simp only[Xr,aa,Xu,Xs]at d8 dX d4)
    go_wp2_with fail
    go_ret
    refine⟨rfl,Bel.bel (B:=_) ?_⟩;(repeat(first|with_reducible assumption|with_reducible exact Bel.refl _|with_reducible refine Bel.alloc ?_ _|with_reducible refine Bel.drewN ?_ _|with_reducible refine Bel.drew ?_|(with_reducible refine ak ?_ ?_ _;rotate_left;(first|omega|(simp;done)|(simp;omega)))|(with_reducible refine Bel.setCell ?_ (p:=_) ?_ _;rotate_left;(first|(simp;done)|omega|(simp;omega)))|refine Bel.call ?_ (by assumption)|(refine EX.bel ?_ (by assumption) ?_;rotate_left;(first|omega|(simp;omega)))))
  ·have hs:lI a l x=false:=by simp[lI,h0]
   rw[hs];have Xa:decide (0≤x)=false:=by simp[h0]
   clear hA hs h0;go_enter func310,ntmps310
   go_wp2_with fail
   refine cu (by kernel_rfl) (by kernel_rfl) (fun _ _ d _ _ h=>by cases d<;>exact h) ?_;repeat(first|((first|refine bA rfl rfl rfl (by with_reducible rfl) ?_|refine bB rfl rfl rfl (by with_reducible rfl) ?_|refine bC rfl rfl rfl (by with_reducible rfl) ?_);simp only[Act.put,Xn,Xv,Xw])|(apply cj;(first|exact bp rfl|exact bE rfl rfl rfl (by with_reducible rfl));intro wq cE R hR;((have ee:=(aI cE).1;(try simp only[Xr,aa,Xu,Xs]at ee));go_simp;first|exact hR|(fail));simp only[Act.put,Xn,Xv,Xw]))
   refine iW (by kernel_rfl) (by first|exact bp rfl|exact bE rfl rfl rfl (by with_reducible rfl)) (fun w1 bV K hK=>?_);obtain⟨bR,bW⟩:=aI bV;have ce:=bw bV;(try simp only[Xr,aa,Xu,Xs]at bR bW ce)
   (try have l0w1:w.heap.size≤w1.heap.size:=by omega)
   (try have l1w1:w.heap.size < w1.heap.size:=by omega)
   (try have l2w1:w.heap.size+1 < w1.heap.size:=by omega)
   go_simp
   refine hK _ _ (Bel.bel (B:=_) ?_) ?_
   ·(repeat(first|with_reducible assumption|with_reducible exact Bel.refl _|with_reducible refine Bel.alloc ?_ _|with_reducible refine Bel.drewN ?_ _|with_reducible refine Bel.drew ?_|(with_reducible refine ak ?_ ?_ _;rotate_left;(first|omega|(simp;done)|(simp;omega)))|(with_reducible refine Bel.setCell ?_ (p:=_) ?_ _;rotate_left;(first|(simp;done)|omega|(simp;omega)))|refine Bel.call ?_ (by assumption)|(refine EX.bel ?_ (by assumption) ?_;rotate_left;(first|omega|(simp;omega)))))
   clear hK K;repeat(first|((first|refine bA rfl rfl rfl (by with_reducible rfl) ?_|refine bB rfl rfl rfl (by with_reducible rfl) ?_|refine bC rfl rfl rfl (by with_reducible rfl) ?_);simp only[Act.put,Xn,Xv,Xw])|(apply cj;(first|exact bp rfl|exact bE rfl rfl rfl (by with_reducible rfl));intro wq cE R hR;((have ee:=(aI cE).1;(try simp only[Xr,aa,Xu,Xs]at ee));go_simp;first|exact hR|((go_at_call 252;refine jS (tw a l _ hv.out ?_ ?_) hR;go_simp;go_simp)));simp only[Act.put,Xn,Xv,Xw]))
   refine ep ?_;intro w2 cI;obtain⟨d8,dX⟩:=aI cI;have d4:=bw cI;(try simp only[Xr,aa,Xu,Xs]at d8 dX d4)
   go_wp2_with fail
   go_ret
   refine⟨rfl,Bel.bel (B:=_) ?_⟩;(repeat(first|with_reducible assumption|with_reducible exact Bel.refl _|with_reducible refine Bel.alloc ?_ _|with_reducible refine Bel.drewN ?_ _|with_reducible refine Bel.drew ?_|(with_reducible refine ak ?_ ?_ _;rotate_left;(first|omega|(simp;done)|(simp;omega)))|(with_reducible refine Bel.setCell ?_ (p:=_) ?_ _;rotate_left;(first|(simp;done)|omega|(simp;omega)))|refine Bel.call ?_ (by assumption)|(refine EX.bel ?_ (by assumption) ?_;rotate_left;(first|omega|(simp;omega)))))
def Hm (a l b m:Int):Bool:=oV a l b m||oV b m a l
theorem zQ (a l b m:Int)(w:World):
 Calls prog 124 #[.agg #[.int .i64 a,.int .i64 l],.agg #[.int .i64 b,.int .i64 m]] w fun e w'=>e= .returned (.bool (Hm a l b m))∧cW w w':=by
 unfold Hm;cases hA:oV a l b m
 case true=>
  have hc:=kI a l b m;rw[hA]at hc;replace hc:=Xk hc;clear hA;go_enter func124,ntmps124
  go_wp2_with fail
  refine(hc.out _).mono ?_;rintro e w1 ⟨rfl,bV⟩;obtain⟨bR,bW⟩:=aI bV;have ce:=bw bV;(try simp only[Xr,aa,Xu,Xs]at bR bW ce)
  go_wp2_with fail
  go_ret
  refine⟨rfl,Bel.bel (B:=_) ?_⟩;(repeat(first|with_reducible assumption|with_reducible exact Bel.refl _|with_reducible refine Bel.alloc ?_ _|with_reducible refine Bel.drewN ?_ _|with_reducible refine Bel.drew ?_|(with_reducible refine ak ?_ ?_ _;rotate_left;(first|omega|(simp;done)|(simp;omega)))|(with_reducible refine Bel.setCell ?_ (p:=_) ?_ _;rotate_left;(first|(simp;done)|omega|(simp;omega)))|refine Bel.call ?_ (by assumption)|(refine EX.bel ?_ (by assumption) ?_;rotate_left;(first|omega|(simp;omega)))))
 case false=>
  have hc:=kI a l b m;rw[hA]at hc;replace hc:=Xk hc;clear hA;obtain⟨r,hr⟩:∃r,r=oV b m a l:=⟨_,rfl⟩;have hd:=kI b m a l;rw[←hr]at hd ⊢;clear hr;replace hd:=Xk hd;go_enter func124,ntmps124
  go_wp2_with fail
  refine(hc.out _).mono ?_;rintro e w1 ⟨rfl,bV⟩;obtain⟨bR,bW⟩:=aI bV;have ce:=bw bV;(try simp only[Xr,aa,Xu,Xs]at bR bW ce)
  go_wp2_with fail
  refine(hd.out _).mono ?_;rintro e w2 ⟨rfl,cI⟩;obtain⟨d8,dX⟩:=aI cI;have d4:=bw cI;(try simp only[Xr,aa,Xu,Xs]at d8 dX d4)
  go_wp2_with fail
  go_ret
  refine⟨rfl,Bel.bel (B:=_) ?_⟩;(repeat(first|with_reducible assumption|with_reducible exact Bel.refl _|with_reducible refine Bel.alloc ?_ _|with_reducible refine Bel.drewN ?_ _|with_reducible refine Bel.drew ?_|(with_reducible refine ak ?_ ?_ _;rotate_left;(first|omega|(simp;done)|(simp;omega)))|(with_reducible refine Bel.setCell ?_ (p:=_) ?_ _;rotate_left;(first|(simp;done)|omega|(simp;omega)))|refine Bel.call ?_ (by assumption)|(refine EX.bel ?_ (by assumption) ?_;rotate_left;(first|omega|(simp;omega)))))
end
theorem pC (p:Pfx):ae prog 157 [.agg (aK p)] (.v (.int .i64 (chk p.at_ p.len))):=dG (bU func157 (by kernel_rfl) rfl) (by intro d hd;simp at hd;(repeat(first|(obtain rfl:=hd;rfl)|(rcases hd with rfl|hd; · rfl)))) rfl rfl (fun w=>pA _ _ _)
theorem S7 (p:Pfx):ae prog 203 [.agg (aK p)] (.v (.int .i64 (uq p.at_ p.len))):=dG (bU func203 (by kernel_rfl) rfl) (by intro d hd;simp at hd;(repeat(first|(obtain rfl:=hd;rfl)|(rcases hd with rfl|hd; · rfl)))) rfl rfl (fun w=>Du _ _ _)
theorem Dv (p q:Pfx):ae prog 189 [.agg (aK p),.agg (aK q)] (.v (.bool (oV p.at_ p.len q.at_ q.len))):=dG (bU func189 (by kernel_rfl) rfl) (by intro d hd;simp at hd;(repeat(first|(obtain rfl:=hd;rfl)|(rcases hd with rfl|hd; · rfl)))) rfl rfl (fun w=>kI _ _ _ _ _)
theorem pD (p q:Pfx):ae prog 124 [.agg (aK p),.agg (aK q)] (.v (.bool (Hm p.at_ p.len q.at_ q.len))):=dG (bU func124 (by kernel_rfl) rfl) (by intro d hd;simp at hd;(repeat(first|(obtain rfl:=hd;rfl)|(rcases hd with rfl|hd; · rfl)))) rfl rfl (fun w=>zQ _ _ _ _ _)
theorem Mq (p:Pfx):ae prog 134 [.agg (aK p)] (.v (.bool (bq p.at_ p.len))):=dG (bU func134 (by kernel_rfl) rfl) (by intro d hd;simp at hd;(repeat(first|(obtain rfl:=hd;rfl)|(rcases hd with rfl|hd; · rfl)))) rfl rfl (fun w=>dH _ _ _)
theorem S8 (p:Pfx)(h:bq p.at_ p.len=true):ae prog 136 [.agg (aK p)] (.v (.int .i64 (mD p.at_ p.len))):=dG (bU func136 (by kernel_rfl) rfl) (by intro d hd;simp at hd;(repeat(first|(obtain rfl:=hd;rfl)|(rcases hd with rfl|hd; · rfl)))) rfl rfl (fun w=>mE _ _ _ h)
theorem Jg (p:Pfx)(x:Int):ae prog 224 [.agg (aK p),.v (.int .i64 x)] (.v (.bool (kH p.at_ p.len x))):=dG (bU func224 (by kernel_rfl) rfl) (by intro d hd;simp at hd;(repeat(first|(obtain rfl:=hd;rfl)|(rcases hd with rfl|hd; · rfl)))) rfl rfl (fun w=>oT _ _ _ _)
theorem FL (p q:Pfx):ae prog 135 [.agg (aK p),.agg (aK q)] (.v (.bool (yE p.at_ p.len q.at_ q.len))):=dG (bU func135 (by kernel_rfl) rfl) (by intro d hd;simp at hd;(repeat(first|(obtain rfl:=hd;rfl)|(rcases hd with rfl|hd; · rfl)))) rfl rfl (fun w=>rT _ _ _ _ _)
theorem A7 (p q:Pfx):ae prog 72 [.agg (aK p),.agg (aK q)] (.v (.bool (oS p.at_ p.len q.at_ q.len))):=dG (bU func72 (by kernel_rfl) rfl) (by intro d hd;simp at hd;(repeat(first|(obtain rfl:=hd;rfl)|(rcases hd with rfl|hd; · rfl)))) rfl rfl (fun w=>Dt _ _ _ _ _)
section
open Go.Proofs
def Pfx.meets (p q:Pfx):Bool:=Hm p.at_ p.len q.at_ q.len
def Pfx.low (p:Pfx):Pfx:=⟨p.at_,p.len+1⟩
def Pfx.high (p:Pfx):Pfx:=⟨p.at_+gh (p.len+1),p.len+1⟩
def Pfx.right (p:Pfx):Bool:=bq p.at_ p.len
def Pfx.v (p:Pfx):Value:= .agg #[.int .i64 p.at_,.int .i64 p.len]
theorem Dw {a l:Int}(h0:0≤l)(h1:l≤16)(h2:0≤a)(h3:a≤65535)(h4:a % gh l=0):bq a l=true:=by
 unfold bq;rw[FB h0 h1 h2 h3];unfold gh at h4;simp[h4]
theorem wE {l:Int}(h0:0≤l)(h1:l < 16):gh l=2*gh (l+1):=by
 unfold gh;have:(16 - l).toNat=(16 - (l+1)).toNat+1:=by omega
 rw[this,_o];omega
theorem vn {l m:Int}(h0:0≤m)(h1:m≤l)(h2:l≤16):∃k:Int,gh m=gh l*k∧1≤k:=by
 refine⟨2 ^ (l - m).toNat,?_,?_⟩
 ·unfold gh;rw[←Int.pow_add];congr 1;omega
 ·have h3:=Nat.one_le_two_pow (n:=(l - m).toNat);have h4:((2 ^ (l - m).toNat:Nat):Int)=(2:Int) ^ (l - m).toNat:=by simp
  omega
theorem zR {a l:Int}(h:bq a l=true):a+gh l≤65536:=by
 obtain⟨g1,g2,g3,g4,g5⟩:=dx h;obtain⟨k,hk,qr⟩:=vn (Int.le_refl 0) g1 g2;have h0:gh 0=65536:=by decide
 rw[h0]at hk;have hs:=fG g1;have hd:gh l ∣ 65536 - a:=by
  refine Int.dvd_sub ⟨k,hk⟩ (ZG g5)
 have:=Int.le_of_dvd (by omega) hd;omega
def jq (p q:Pfx):Bool:=oV p.at_ p.len q.at_ q.len
def Pfx.hi (p:Pfx):Int:=p.at_+gh p.len
theorem Pfx.bd {p:Pfx}(h:p.right=true):0≤p.len∧p.len≤16∧0≤p.at_∧p.at_≤65535∧p.at_ % gh p.len=0:=dx h
theorem Pfx.hi_bd {p:Pfx}(h:p.right=true):p.at_ < p.hi∧p.hi≤65536:=by
 have h1:=zR h;obtain⟨g1,-⟩:=p.bd h;have h2:=fG g1;unfold Pfx.hi;omega
theorem vq {s a b:Int}(hs:0 < s)(hb:b % s=0):a - a % s=b↔b≤a∧a < b+s:=by
 have h1:=Int.emod_nonneg a (b:=s) (by omega);have h2:=Int.emod_lt_of_pos a hs;constructor
 ·intro h;omega
 ·intro⟨h3,h4⟩;have h5:(a - b) % s=a % s:=by rw[Int.sub_emod,hb,Int.sub_zero,Int.emod_emod]
  rw[Int.emod_eq_of_lt (by omega) (by omega)]at h5;omega
theorem Dx {s x:Int}(hs:0 < s)(hx:0 < x)(hd:s ∣ x):s≤x:=Int.le_of_dvd hx hd
theorem S9 {p q:Pfx}(hp:p.right=true)(hq:q.right=true)(hl:q.len≤p.len)(h1:p.at_ < q.hi)(h2:q.at_ < p.hi):q.at_≤p.at_∧p.hi≤q.hi:=by
 obtain⟨a1,a2,a3,a4,a5⟩:=p.bd hp;obtain⟨b1,b2,b3,b4,b5⟩:=q.bd hq;obtain⟨k,hk,qr⟩:=vn b1 hl a2;have s1:=fG a1;have s2:=fG b1;unfold Pfx.hi at*;have dq:gh p.len ∣ q.at_:=Int.dvd_trans ⟨k,hk⟩ (ZG b5);have dp:gh p.len ∣ p.at_:=ZG a5;have dm:gh p.len ∣ gh q.len:=⟨k,hk⟩;refine⟨?_,?_⟩
 ·rcases Int.lt_or_le p.at_ q.at_ with h|h
  ·have:=Dx (by omega) (show 0 < q.at_ - p.at_ by omega) (Int.dvd_sub dq dp);omega
  ·exact h
 ·have:=Dx (by omega) (show 0 < q.at_+gh q.len - p.at_ by omega) (Int.dvd_sub (Int.dvd_add dq dm) dp);omega
theorem oW {p q:Pfx}:jq p q=true↔p.right=true∧q.right=true∧q.len≤p.len∧q.at_≤p.at_∧p.at_ < q.hi:=by
 unfold jq oV Pfx.right;constructor
 ·intro h;simp only[Xy,decide_eq_true_eq,beq_iff_eq]at h;obtain⟨⟨⟨h1,h2⟩,h3⟩,h4⟩:=h;obtain⟨b1,b2,b3,b4,b5⟩:=dx h2;have:=(vq (by have:=fG b1;omega) b5).1 h4;exact⟨h1,h2,h3,this.1,this.2⟩
 ·intro⟨h1,h2,h3,h4,h5⟩;obtain⟨b1,b2,b3,b4,b5⟩:=dx h2;simp only[Xy,decide_eq_true_eq,beq_iff_eq];exact⟨⟨⟨h1,h2⟩,h3⟩,(vq (by have:=fG b1;omega) b5).2 ⟨h4,h5⟩⟩
theorem Hn {s k:Int}(hs:0≤s)(hk:1≤k):s≤s*k:=by
 have:=Int.mul_le_mul_of_nonneg_left hk hs;rwa [Int.mul_one]at this
theorem Ta {l m:Int}(h0:0≤m)(h2:l≤16)(h3:0≤l)(hm:m≤16):gh l≤gh m↔m≤l:=by
 constructor
 ·intro h;rcases Int.lt_or_le l m with hlt|hle
  ·obtain⟨k,hk,qr⟩:=vn (l:=m) (m:=l+1) (by omega) (by omega) hm;have e:=wE h3 (by omega);have s1:=fG h0;have:gh m≤gh (l+1):=by rw[hk];exact Hn (by have:=fG (n:=l+1) (by omega);omega) qr
   omega
  ·exact hle
 ·intro h;obtain⟨k,hk,qr⟩:=vn h0 h h2;rw[hk];exact Hn (by have:=fG h3;omega) qr
theorem lJ {p q:Pfx}:jq p q=true↔p.right=true∧q.right=true∧q.at_≤p.at_∧p.hi≤q.hi:=by
 rw[oW];constructor
 ·intro⟨h1,h2,h3,h4,h5⟩;exact⟨h1,h2,S9 h1 h2 h3 h5 (by have:=p.hi_bd h1;omega)⟩
 ·intro⟨h1,h2,h3,h4⟩;have hp:=p.hi_bd h1;obtain⟨a1,a2,-⟩:=p.bd h1;obtain⟨b1,b2,-⟩:=q.bd h2;exact⟨h1,h2,(Ta b1 a2 a1 b2).1 (by unfold Pfx.hi at*;omega),h3,by omega⟩
theorem A8 (p q:Pfx):yE p.at_ p.len q.at_ q.len=jq p q:=by
 rw[Yl,lJ];unfold yE kH dE mD Pfx.right Pfx.hi;simp only[Xy,decide_eq_true_eq];constructor
 ·intro⟨⟨⟨h1,h2⟩,h3⟩,h4⟩;exact⟨h1,h2,h3.2.1,by omega⟩
 ·intro⟨h1,h2,h3,h4⟩;obtain⟨a1,-⟩:=dx h1;have s1:=fG a1;exact⟨⟨⟨h1,h2⟩,⟨h2,h3,by omega⟩⟩,⟨h2,by omega,by omega⟩⟩
theorem gL {p q:Pfx}:p.meets q=true↔p.right=true∧q.right=true∧p.at_ < q.hi∧q.at_ < p.hi:=by
 have e:p.meets q=(jq p q||jq q p):=rfl;rw[e,Bool.or_eq_true,oW,oW];constructor
 ·rintro (⟨h1,h2,h3,h4,h5⟩|⟨h1,h2,h3,h4,h5⟩)
  ·exact⟨h1,h2,h5,by have:=p.hi_bd h1;omega⟩
  ·exact⟨h2,h1,by have:=q.hi_bd h1;omega,h5⟩
 ·intro⟨h1,h2,h3,h4⟩;rcases Int.le_total q.len p.len with hl|hl
  ·exact .inl ⟨h1,h2,hl,(S9 h1 h2 hl h3 h4).1,h3⟩
  ·exact .inr ⟨h2,h1,hl,(S9 h2 h1 hl h4 h3).1,h4⟩
theorem jr (p q:Pfx):oS p.at_ p.len q.at_ q.len=p.meets q:=by
 rw[Yl,gL];unfold oS mD Pfx.right Pfx.hi;simp only[Xy,decide_eq_true_eq];constructor
 ·intro⟨⟨⟨h1,h2⟩,h3⟩,h4⟩;exact⟨h1,h2,by omega,by omega⟩
 ·intro⟨h1,h2,h3,h4⟩;exact⟨⟨⟨h1,h2⟩,by omega⟩,by omega⟩
theorem wF (p q:Pfx):p.meets q=q.meets p:=by
 rw[Yl,gL,gL];constructor<;>(intro⟨h1,h2,h3,h4⟩;exact⟨h2,h1,h4,h3⟩)
theorem pE {p:Pfx}{x:Int}:kH p.at_ p.len x=true↔p.right=true∧p.at_≤x∧x < p.hi:=by
 unfold kH dE mD Pfx.right Pfx.hi;simp only[Xy,decide_eq_true_eq];constructor
 ·intro⟨h1,h2,h3⟩;exact⟨h1,h2,by omega⟩
 ·intro⟨h1,h2,h3⟩;exact⟨h1,h2,by omega⟩
theorem rU (p:Pfx)(x:Int):lI p.at_ p.len x=kH p.at_ p.len x:=by
 rw[Yl,pE];unfold lI Pfx.right;simp only[Xy,decide_eq_true_eq,beq_iff_eq];constructor
 ·intro⟨h1,h2,h3,h4⟩;obtain⟨b1,b2,b3,b4,b5⟩:=dx h1;have:=(vq (by have:=fG b1;omega) b5).1 h4;exact⟨h1,this.1,this.2⟩
 ·intro⟨h1,h2,h3⟩;obtain⟨b1,b2,b3,b4,b5⟩:=dx h1;have hf:=p.hi_bd h1;exact⟨h1,by omega,by omega,(vq (by have:=fG b1;omega) b5).2 ⟨h2,h3⟩⟩
theorem ur {a l:Int}(h:bq a l=true):uq a l=gh l:=by unfold uq;rw[if_pos h]
end
def cU (n:Int):Bool:=decide (1≤n)&&decide (n≤65536)
theorem kJ (n:Int):ae prog 191 [.v (.int .i64 n)] (.v (.bool (cU n))):=by
 cases e1:decide (n≥1)with
 |true=>
  have h1:decide (1≤n)=true:=e1;refine pj func191 ntmps191 results191 ?_;refine ay ?_<;>intros;all_goals(unfold cU;rw[h1];exact ap.refl _)
 |false=>
  have h1:decide (1≤n)=false:=e1;refine pj func191 ntmps191 results191 ?_;refine ay ?_<;>intros;all_goals(unfold cU;rw[h1];exact ap.refl _)
theorem Mr {x y:Bool}(h:x=y):ap (.v (.bool x)) (.v (.bool y)):=h ▸ ap.refl _
theorem Dy {x y:Int}(h:x=y):ap (.v (.int .i64 x)) (.v (.int .i64 y)):=h ▸ ap.refl _
def qd (f:Fce):Bool:=decide ((f.addrs.length:Int)>4)
def nR (s:Sbn):Bool:=decide ((s.faces.length:Int)>8)||s.faces.any qd
def kK (v:Vpc):Bool:=decide ((v.ranges.length:Int)>4)||(decide ((v.subs.length:Int)>6)||v.subs.any nR)
theorem Ms (f:Fce):ae prog 264 [.agg (cX f)] (.v (.bool (qd f))):=by
 refine pj func264 ntmps264 results264 ?_;exact bo;all_goals exact ap.refl _
theorem P6 (s:Sbn):ae prog 262 [.agg (bI s)] (.v (.bool (nR s))):=by
 unfold nR;by_cases h:s.faces.length>8
 ·have h1:decide ((s.faces.length:Int)>8)=true:=by simp;omega
  rw[h1];refine pj func262 ntmps262 results262 ?_;exact bo;all_goals exact ap.refl _
 ·have h1:decide ((s.faces.length:Int)>8)=false:=by simp;omega
  have hc:=Jc wu qd s.faces 264 [] (by omega) (fun f _=>Ms f);rw[h1];refine pj func262 ntmps262 results262 ?_;exact bo;all_goals exact ap.refl _
theorem Tb (v:Vpc):ae prog 207 [.agg (aD v)] (.v (.bool (kK v))):=by
 unfold kK;cases h1:decide ((v.ranges.length:Int)>4)with
 |true=>
  refine pj func207 ntmps207 results207 ?_;exact bo;all_goals exact ap.refl _
 |false=>
  cases h2:decide ((v.subs.length:Int)>6)with
  |true=>
   refine pj func207 ntmps207 results207 ?_;exact bo;all_goals exact ap.refl _
  |false=>
   have hl:v.subs.length≤6:=by simp at h2;omega
   have hc:=wA my nR v.subs 262 [] (by omega) (fun f _=>P6 f);refine pj func207 ntmps207 results207 ?_;exact bo;all_goals exact ap.refl _
theorem wG {v:Vpc}(h:kK v=false):v.ranges.length≤4∧v.subs.length≤6∧∀s∈v.subs,s.faces.length≤8∧∀f∈s.faces,f.addrs.length≤4:=by
 simp only[kK,nR,qd,Zo,decide_eq_false_iff_not,Yw]at h;refine⟨by omega,by omega,fun s hs=>?_⟩;have h1:=h.2.2 s hs;simp only[Bool.not_eq_true,Zo,decide_eq_false_iff_not,Yw,decide_eq_true_eq]at h1;exact⟨by omega,fun f hf=>by have h2:=h1.2 f hf;revert h2;simp[qd];omega⟩
def eS (v:Vpc)(p:Pfx):Bool:=v.ranges.any fun r=>jq p r.at_
theorem Mt (r:Rng)(p:Pfx):ae prog 253 [.agg (cq r),.ept (aK p)] (.v (.bool (jq p r.at_))):=by
 have hi:ae prog 189 [.agg (aK p),.agg (aK r.at_)] (.v (.bool (jq p r.at_))):=Dv p r.at_;refine pj func253 ntmps253 results253 ?_;exact bo
theorem rV (v:Vpc)(p:Pfx)(hl:v.ranges.length≤1000000000):ae prog 192 [.agg (aD v),.agg (aK p)] (.v (.bool (eS v p))):=by
 have hc:=nq mz (fun r=>jq p r.at_) v.ranges 253 [.ept (aK p)] hl (fun r _=>Mt r p);refine pj func192 ntmps192 results192 ?_;exact bo
theorem P7 (p:Pfx)(x:Int):ae prog 310 [.agg (aK p),.v (.int .i64 x)] (.v (.bool (lI p.at_ p.len x))):=dG (bU func310 (by kernel_rfl) rfl) (by intro d hd;simp at hd;(repeat(first|(obtain rfl:=hd;rfl)|(rcases hd with rfl|hd; · rfl)))) rfl rfl (fun w=>Jf _ _ _ _)
def kL (p:Pfx)(x:Int):Bool:=lI p.at_ p.len x&&(decide (x>p.at_)&&decide (x < p.at_+gh p.len - 1))
theorem Ho (p:Pfx)(x:Int):ae prog 258 [.agg (aK p),.v (.int .i64 x)] (.v (.bool (kL p x))):=by
 have hh:=P7 p x;unfold kL;cases h1:lI p.at_ p.len x with
 |false=>
  rw[h1]at hh;refine pj func258 ntmps258 results258 ?_;exact bo;all_goals exact ap.refl _
 |true=>
  have hr:p.right=true:=(pE.1 (by rw[←rU];exact h1)).1;obtain⟨b1,b2,b3,b4,-⟩:=p.bd hr;have hs:=fG b1;have Km:=S7 p;rw[ur hr]at Km;have bV:IntKind.i64.wrap (p.at_+gh p.len)=p.at_+gh p.len:=by rw[IntKind.wrap_i64];omega
  have cI:IntKind.i64.wrap (p.at_+gh p.len - 1)=p.at_+gh p.len - 1:=by rw[IntKind.wrap_i64];omega
  rw[h1]at hh;generalize gh p.len=Z at*;cases h2:decide (x>p.at_)with
  |false=>
   refine pj func258 ntmps258 results258 ?_;exact bo;all_goals exact ap.refl _
  |true=>
   refine pj func258 ntmps258 results258 ?_;exact bo;all_goals exact ap.refl _
def eJ {α:Type}(key:α→Int):List α→Bool
 |a::b::l=>decide (key a < key b)&&eJ key (b::l)
 |_=>true
theorem ew {α:Type}{key:α→Int}:∀(l:List α),eJ key l=true↔∀j (h:j+1 < l.length),key l[j] < key l[j+1]
 |[]=>by simp[eJ]
 |[a]=>by simp[eJ]
 |a::b::l=>by
  have ih:=ew (key:=key) (b::l);simp only[eJ,Xy,decide_eq_true_eq,ih];constructor
  ·rintro⟨h1,h2⟩ j hj;cases j with
   |zero=>exact h1
   |succ j=>exact h2 j (by simpa using hj)
  ·intro h;exact⟨h 0 (by simp),fun j hj=>h (j+1) (by simpa using hj)⟩
theorem fQ {α:Type}{key:α→Int}:∀(l:List α),eJ key l=true↔l.Pairwise fun a b=>key a < key b
 |[]=>by simp[eJ]
 |[a]=>by simp[eJ]
 |a::b::l=>by
  have ih:=fQ (key:=key) (b::l);simp only[eJ,Xy,decide_eq_true_eq,ih];constructor
  ·rintro⟨h1,h2⟩;refine YM.2 ⟨fun x hx=>?_,h2⟩;rcases XY.1 hx with rfl|hx
   ·exact h1
   ·have:=(YM.1 h2).1 x hx;omega
  ·intro h;obtain⟨h1,h2⟩:=YM.1 h;exact⟨h1 b (by simp),h2⟩
theorem Dz {α:Type}{enc:α→List D}(ef:∀x,(enc x).length=3)(key:α→Int)(l:List α)(g:Nat)(hl:l.length≤1000000000)(hc:∀x∈l,ae prog g [.agg (enc x)] (.v (.int .i64 (key x)))):
 ae prog 208 [.sl 3 (l.map enc),.clo g []] (.v (.bool (eJ key l))):=by
 refine pj func208 ntmps208 results208 ?_;refine ay ?_<;>intros;refine cf af al (fun m e h=>∃k:Nat,1≤k∧(∀j (h:j+1 < l.length),j+1 < k→key l[j] < key l[j+1])∧m=l.length - k∧e=[(5,.d (.v (.int .i64 k))),(4,.d (.v (.bool false))),(1,.d (.clo g [])),(0,.d (.sl 3 (l.map enc)))]∧h=[]) _ _ _ ⟨1,XC _,fun j h h1=>by omega,rfl,rfl,rfl⟩ ?_ ?_
 ·exact wf (x:=[]) (hh:=rfl) (he:=⟨rfl,rfl,rfl,rfl,trivial⟩)
 ·rintro m e h ⟨k,qr,cC,hm,rfl,rfl⟩ CL m5;by_cases hlt:k < l.length
  ·obtain⟨x,hx⟩:∃x,l[k - 1]? =some x:=⟨_,Xj (by omega)⟩;obtain⟨y,hy⟩:∃y,l[k]? =some y:=⟨_,Xj hlt⟩;have ec:(k:Int) < (l.length:Int):=by omega
   have dW:=wi k (by omega);have GH:IntKind.i64.wrap ((k:Int) - 1)=((k - 1:Nat):Int):=by rw[IntKind.wrap_i64];omega
   have pR:=ef x;have hly:=ef y;have htx:(enc x).take 3=enc x:=XI (by omega);have VT:(enc y).take 3=enc y:=XI (by omega);have ji:=hc x (Xl hx);have hcy:=hc y (Xl hy);have od:l[k - 1]'(by omega)=x:=by rw[Xj (by omega)]at hx;exact XX.inj hx
   have yj:l[k]=y:=by rw[Xj hlt]at hy;exact XX.inj hy
   replace od:=Xk od;replace yj:=Xk yj;replace hm:=Xk hm;cases hge:decide (key x≥key y)with
   |true=>
    have hr:eJ key l=false:=by
     rw[YK,ne_eq,ew];intro h;have:=h (k - 1) (by omega);simp only[show k - 1+1=k by omega,od.out,yj.out]at this;simp at hge;omega
    exact bo;all_goals(rw[hr];exact ap.refl _)
   |false=>
    refine ay ?_<;>intros;refine m5 _ _ _ _ _ ?_ ⟨k+1,by omega,fun j hj BT=>?_,rfl,rfl,rfl⟩ (wf (x:=[]) (hh:=rfl) (he:=⟨rfl,rfl,rfl,rfl,trivial⟩))
    ·have:=hm.out;omega
    ·rcases XO (j+1) k with h|h
     ·exact cC j hj h
     ·obtain rfl:j=k - 1:=by omega
      simp only[show k - 1+1=k by omega,od.out,yj.out];simp at hge;omega
  ·have ec:decide ((k:Int) < (l.length:Int))=false:=by simp;omega
   have hr:eJ key l=true:=(ew l).2 fun j hj=>cC j hj (by omega);replace hm:=Xk hm;exact bo;all_goals(rw[hr];exact ap.refl _)
theorem Jh {α:Type}{enc:α→List D}(ef:∀x,(enc x).length=4)(key:α→Int)(l:List α)(g:Nat)(hl:l.length≤1000000000)(hc:∀x∈l,ae prog g [.agg (enc x)] (.v (.int .i64 (key x)))):
 ae prog 210 [.sl 4 (l.map enc),.clo g []] (.v (.bool (eJ key l))):=by
 refine pj func210 ntmps210 results210 ?_;refine ay ?_<;>intros;refine cf af al (fun m e h=>∃k:Nat,1≤k∧(∀j (h:j+1 < l.length),j+1 < k→key l[j] < key l[j+1])∧m=l.length - k∧e=[(5,.d (.v (.int .i64 k))),(4,.d (.v (.bool false))),(1,.d (.clo g [])),(0,.d (.sl 4 (l.map enc)))]∧h=[]) _ _ _ ⟨1,XC _,fun j h h1=>by omega,rfl,rfl,rfl⟩ ?_ ?_
 ·exact wf (x:=[]) (hh:=rfl) (he:=⟨rfl,rfl,rfl,rfl,trivial⟩)
 ·rintro m e h ⟨k,qr,cC,hm,rfl,rfl⟩ CL m5;by_cases hlt:k < l.length
  ·obtain⟨x,hx⟩:∃x,l[k - 1]? =some x:=⟨_,Xj (by omega)⟩;obtain⟨y,hy⟩:∃y,l[k]? =some y:=⟨_,Xj hlt⟩;have ec:(k:Int) < (l.length:Int):=by omega
   have dW:=wi k (by omega);have GH:IntKind.i64.wrap ((k:Int) - 1)=((k - 1:Nat):Int):=by rw[IntKind.wrap_i64];omega
   have pR:=ef x;have hly:=ef y;have htx:(enc x).take 4=enc x:=XI (by omega);have VT:(enc y).take 4=enc y:=XI (by omega);have ji:=hc x (Xl hx);have hcy:=hc y (Xl hy);have od:l[k - 1]'(by omega)=x:=by rw[Xj (by omega)]at hx;exact XX.inj hx
   have yj:l[k]=y:=by rw[Xj hlt]at hy;exact XX.inj hy
   replace od:=Xk od;replace yj:=Xk yj;replace hm:=Xk hm;cases hge:decide (key x≥key y)with
   |true=>
    have hr:eJ key l=false:=by
     rw[YK,ne_eq,ew];intro h;have:=h (k - 1) (by omega);simp only[show k - 1+1=k by omega,od.out,yj.out]at this;simp at hge;omega
    exact bo;all_goals(rw[hr];exact ap.refl _)
   |false=>
    refine ay ?_<;>intros;refine m5 _ _ _ _ _ ?_ ⟨k+1,by omega,fun j hj BT=>?_,rfl,rfl,rfl⟩ (wf (x:=[]) (hh:=rfl) (he:=⟨rfl,rfl,rfl,rfl,trivial⟩))
    ·have:=hm.out;omega
    ·rcases XO (j+1) k with h|h
     ·exact cC j hj h
     ·obtain rfl:j=k - 1:=by omega
      simp only[show k - 1+1=k by omega,od.out,yj.out];simp at hge;omega
  ·have ec:decide ((k:Int) < (l.length:Int))=false:=by simp;omega
   have hr:eJ key l=true:=(ew l).2 fun j hj=>cC j hj (by omega);replace hm:=Xk hm;exact bo;all_goals(rw[hr];exact ap.refl _)
theorem FM {α:Type}{enc:α→List D}(ef:∀x,(enc x).length=2)(key:α→Int)(l:List α)(g:Nat)(hl:l.length≤1000000000)(hc:∀x∈l,ae prog g [.agg (enc x)] (.v (.int .i64 (key x)))):
 ae prog 267 [.sl 2 (l.map enc),.clo g []] (.v (.bool (eJ key l))):=by
 refine pj func267 ntmps267 results267 ?_;refine ay ?_<;>intros;refine cf af al (fun m e h=>∃k:Nat,1≤k∧(∀j (h:j+1 < l.length),j+1 < k→key l[j] < key l[j+1])∧m=l.length - k∧e=[(5,.d (.v (.int .i64 k))),(4,.d (.v (.bool false))),(1,.d (.clo g [])),(0,.d (.sl 2 (l.map enc)))]∧h=[]) _ _ _ ⟨1,XC _,fun j h h1=>by omega,rfl,rfl,rfl⟩ ?_ ?_
 ·exact wf (x:=[]) (hh:=rfl) (he:=⟨rfl,rfl,rfl,rfl,trivial⟩)
 ·rintro m e h ⟨k,qr,cC,hm,rfl,rfl⟩ CL m5;by_cases hlt:k < l.length
  ·obtain⟨x,hx⟩:∃x,l[k - 1]? =some x:=⟨_,Xj (by omega)⟩;obtain⟨y,hy⟩:∃y,l[k]? =some y:=⟨_,Xj hlt⟩;have ec:(k:Int) < (l.length:Int):=by omega
   have dW:=wi k (by omega);have GH:IntKind.i64.wrap ((k:Int) - 1)=((k - 1:Nat):Int):=by rw[IntKind.wrap_i64];omega
   have pR:=ef x;have hly:=ef y;have htx:(enc x).take 2=enc x:=XI (by omega);have VT:(enc y).take 2=enc y:=XI (by omega);have ji:=hc x (Xl hx);have hcy:=hc y (Xl hy);have od:l[k - 1]'(by omega)=x:=by rw[Xj (by omega)]at hx;exact XX.inj hx
   have yj:l[k]=y:=by rw[Xj hlt]at hy;exact XX.inj hy
   replace od:=Xk od;replace yj:=Xk yj;replace hm:=Xk hm;cases hge:decide (key x≥key y)with
   |true=>
    have hr:eJ key l=false:=by
     rw[YK,ne_eq,ew];intro h;have:=h (k - 1) (by omega);simp only[show k - 1+1=k by omega,od.out,yj.out]at this;simp at hge;omega
    exact bo;all_goals(rw[hr];exact ap.refl _)
   |false=>
    refine ay ?_<;>intros;refine m5 _ _ _ _ _ ?_ ⟨k+1,by omega,fun j hj BT=>?_,rfl,rfl,rfl⟩ (wf (x:=[]) (hh:=rfl) (he:=⟨rfl,rfl,rfl,rfl,trivial⟩))
    ·have:=hm.out;omega
    ·rcases XO (j+1) k with h|h
     ·exact cC j hj h
     ·obtain rfl:j=k - 1:=by omega
      simp only[show k - 1+1=k by omega,od.out,yj.out];simp at hge;omega
  ·have ec:decide ((k:Int) < (l.length:Int))=false:=by simp;omega
   have hr:eJ key l=true:=(ew l).2 fun j hj=>cC j hj (by omega);replace hm:=Xk hm;exact bo;all_goals(rw[hr];exact ap.refl _)
theorem Ji (l:List Int)(g:Nat)(hl:l.length≤1000000000)(hc:∀x,ae prog g [.v (.int .i64 x)] (.v (.int .i64 x))):
 ae prog 265 [.sl 1 (l.map dF),.clo g []] (.v (.bool (eJ (fun x=>x) l))):=by
 refine pj func265 ntmps265 results265 ?_;refine ay ?_<;>intros;refine cf af al (fun m e h=>∃k:Nat,1≤k∧(∀j (h:j+1 < l.length),j+1 < k→l[j] < l[j+1])∧m=l.length - k∧e=[(5,.d (.v (.int .i64 k))),(4,.d (.v (.bool false))),(1,.d (.clo g [])),(0,.d (.sl 1 (l.map dF)))]∧h=[]) _ _ _ ⟨1,XC _,fun j h h1=>by omega,rfl,rfl,rfl⟩ ?_ ?_
 ·exact wf (x:=[]) (hh:=rfl) (he:=⟨rfl,rfl,rfl,rfl,trivial⟩)
 ·rintro m e h ⟨k,qr,cC,hm,rfl,rfl⟩ CL m5;by_cases hlt:k < l.length
  ·obtain⟨x,hx⟩:∃x,l[k - 1]? =some x:=⟨_,Xj (by omega)⟩;obtain⟨y,hy⟩:∃y,l[k]? =some y:=⟨_,Xj hlt⟩;have ec:(k:Int) < (l.length:Int):=by omega
   have dW:=wi k (by omega);have GH:IntKind.i64.wrap ((k:Int) - 1)=((k - 1:Nat):Int):=by rw[IntKind.wrap_i64];omega
   have ji:=hc x;have hcy:=hc y;have od:l[k - 1]'(by omega)=x:=by rw[Xj (by omega)]at hx;exact XX.inj hx
   have yj:l[k]=y:=by rw[Xj hlt]at hy;exact XX.inj hy
   replace od:=Xk od;replace yj:=Xk yj;replace hm:=Xk hm;cases hge:decide (x≥y)with
   |true=>
    have hr:eJ (fun x=>x) l=false:=by
     rw[YK,ne_eq,ew];intro h;have:=h (k - 1) (by omega);simp only[show k - 1+1=k by omega,od.out,yj.out]at this;simp at hge;omega
    exact bo;all_goals(rw[hr];exact ap.refl _)
   |false=>
    refine ay ?_<;>intros;refine m5 _ _ _ _ _ ?_ ⟨k+1,by omega,fun j hj BT=>?_,rfl,rfl,rfl⟩ (wf (x:=[]) (hh:=rfl) (he:=⟨rfl,rfl,rfl,rfl,trivial⟩))
    ·have:=hm.out;omega
    ·rcases XO (j+1) k with h|h
     ·exact cC j hj h
     ·obtain rfl:j=k - 1:=by omega
      simp only[show k - 1+1=k by omega,od.out,yj.out];simp at hge;omega
  ·have ec:decide ((k:Int) < (l.length:Int))=false:=by simp;omega
   have hr:eJ (fun x=>x) l=true:=(ew l).2 fun j hj=>cC j hj (by omega);replace hm:=Xk hm;exact bo;all_goals(rw[hr];exact ap.refl _)
def fH:List Pfx→List Pfx→Bool
 |_,[]=>true
 |pre,p::l=>!(pre.any p.meets)&&fH (pre++[p]) l
theorem Mu (q p:Pfx):ae prog 269 [.agg (aK q),.ept (aK p)] (.v (.bool (p.meets q))):=by
 have hm:ae prog 124 [.agg (aK p),.agg (aK q)] (.v (.bool (p.meets q))):=pD p q;refine pj func269 ntmps269 results269 ?_;exact bo
theorem oX {α:Type}{l:List α}{k:Nat}{x:α}(h:l[k]? =some x):l.drop k=x::l.drop (k+1):=by
 obtain⟨hk,rfl⟩:=Xo.1 h;exact YV hk
theorem Hp (l:List Pfx)(hl:l.length≤1000000000):ae prog 213 [.sl 2 (l.map aK)] (.v (.bool (fH [] l))):=by
 refine pj func213 ntmps213 results213 ?_;refine ay ?_<;>intros;refine br af al l (fun k=>fH [] l=fH (l.take k) (l.drop k)) (fun k=>[(7,.d (.v (.int .i64 k))),(6,.d (.v (.int .i64 l.length))),(5,.d (.sl 2 (l.map aK))),(2,.d (.v (.bool false))),(0,.d (.sl 2 (l.map aK)))]) (fun _=>[]) rfl (wf (x:=[]) (hh:=rfl) (he:=⟨rfl,rfl,rfl,rfl,rfl,trivial⟩)) ?_ ?_
 ·intro k p hp hk hI C hC;have fy:(k:Int) < (l.length:Int):=by omega
  have dW:=wi k (by omega);have om:=un C8 p.meets (l.take k) 269 [.ept (aK p)] (by rw[Xp];omega) (fun q _=>Mu q p);rw[Zz]at om;rw[oX hp]at hI;simp only[fH,←ah hp]at hI;replace hI:=Xk hI;have Kl:k≤l.length:=by omega
  cases ha:(l.take k).any p.meets with
  |true=>
   rw[ha]at om;refine ay ?_<;>intros;all_goals(rw[hI.out,ha];exact ap.refl _)
  |false=>
   rw[ha]at om;refine ay ?_<;>intros;exact hC _ _ (by rw[hI.out,ha];rfl) (wf)
 ·intro hI C;rw[Zf]at hI;replace hI:=Xk hI;refine ay ?_<;>intros;all_goals(rw[hI.out];exact ap.refl _)
def kM (at_:Pfx)(f:Fce):Bool:=cU f.id&&(!((f.addrs.length:Int)==0)&&(eJ (fun x=>x) f.addrs&&f.addrs.all (kL at_)))
def dh (s:Sbn):Bool:=s.faces.all (kM s.at_)&&(decide (s.faces.flatMap (·.addrs)).Nodup&&eJ (·.id) s.faces)
theorem Mv (n:Int):ae prog 266 [.v (.int .i64 n)] (.v (.int .i64 n)):=by
 refine pj func266 ntmps266 results266 ?_;exact bo
theorem Mw (f:Fce):ae prog 268 [.agg (cX f)] (.v (.int .i64 f.id)):=by
 refine pj func268 ntmps268 results268 ?_;exact bo
def Tc (ents:List (List Int × Int))(done:List Int):Prop:=∀a,kl ents [a]=if a∈done then some 1 else none
theorem Hq:Tc [] []:=fun a=>by simp[kl]
theorem DA {ents:List (List Int × Int)}{done:List Int}(h:Tc ents done){a:Int}(ha:a∉done):Tc (mo ents [a] 1) (done++[a]):=by
 intro b;rw[fZ,h b];by_cases hb:a=b
 ·subst hb;simp
 ·have hb':¬b=a:=fun e=>hb e.symm;simp[hb,hb']
theorem qM {l:List Int}{a:Int}:(l++[a]).Nodup↔l.Nodup∧a∉l:=by
 rw[X'];simp;intro _;constructor
 ·intro h hm;exact h a hm rfl
 ·intro h b hb e;subst e;exact h hb
theorem A9 (s:Sbn)(h8:s.faces.length≤8)(h4:∀f∈s.faces,f.addrs.length≤4):ae prog 212 [.agg (bI s)] (.v (.bool (dh s))):=by
 have H6:=FM wu (·.id) s.faces 268 (by omega) (fun f _=>Mw f);refine pj func212 ntmps212 results212 ?_;refine ay ?_<;>intros;refine cf af al (fun m e h=>∃(k:Nat) (ents:List (List Int × Int)),k≤s.faces.length∧Tc ents ((s.faces.take k).flatMap (·.addrs))∧((s.faces.take k).flatMap (·.addrs)).Nodup∧(∀f∈s.faces.take k,kM s.at_ f=true)∧m=s.faces.length - k∧
  e=[(12,.d (.v (.int .i64 k))),(11,.d (.v (.int .i64 s.faces.length))),(10,.d (.sl 2 (s.faces.map cX))),(3,.mref 1),(2,.d (.v (.bool false))),(1,.ptr 0 0)]∧h=[.box 107 ((bI s).map .d),.mp 1 false ents]) _ _ _ ⟨0,[],XL _,Hq,List.nodup_nil,fun f h=>by simp at h,rfl,rfl,rfl⟩ (wf) ?_
 rintro m e h ⟨k,ents,hk,pZ,lw,bK,hm,rfl,rfl⟩ C hC;by_cases hlt:k < s.faces.length
 ·have fy:(k:Int) < (s.faces.length:Int):=by omega
  have dW:=wi k (by omega);obtain⟨f,hf⟩:∃f,s.faces[k]? =some f:=⟨_,Xj hlt⟩;have fV:=Xl hf;have hid:=kJ f.id;have hrf:=Ji f.addrs 266 (by have:=h4 f fV;omega) Mv;have jC:=h4 f fV;have bP:kM s.at_ f=false→dh s=false:=fun h=>by
   unfold dh;rw[Bool.and_eq_false_iff];left;rw[YX];exact⟨f,fV,by rw[h];simp⟩
  replace bP:=Xk bP;replace hm:=Xk hm;replace pZ:=Xk pZ;replace lw:=Xk lw;replace bK:=Xk bK;have GI:kM s.at_ f=(cU f.id&&(!((f.addrs.length:Int)==0)&&(eJ (fun x=>x) f.addrs&&f.addrs.all (kL s.at_)))):=rfl;replace GI:=Xk GI;cases b1:cU f.id with
  |false=>
   rw[b1]at hid;refine ay ?_<;>intros;all_goals(rw[bP.out (by rw[GI.out,b1];rfl)];exact ap.refl _)
  |true=>
  rw[b1]at hid;cases b2:(f.addrs.length:Int)==0 with
  |true=>
   refine ay ?_<;>intros;all_goals(rw[bP.out (by rw[GI.out,b1,b2];rfl)];exact ap.refl _)
  |false=>
  cases b3:eJ (fun x=>x) f.addrs with
  |false=>
   rw[b3]at hrf;refine ay ?_<;>intros;all_goals(rw[bP.out (by rw[GI.out,b1,b2,b3];rfl)];exact ap.refl _)
  |true=>
  rw[b3]at hrf;refine ay ?_<;>intros;refine cf af al (fun m e h=>∃(j:Nat) (ents:List (List Int × Int)),j≤f.addrs.length∧Tc ents ((s.faces.take k).flatMap (·.addrs)++f.addrs.take j)∧((s.faces.take k).flatMap (·.addrs)++f.addrs.take j).Nodup∧(∀a∈f.addrs.take j,kL s.at_ a=true)∧m=f.addrs.length - j∧
   e=[(35,.d (.v (.int .i64 j))),(34,.d (.v (.int .i64 f.addrs.length))),(33,.d (.sl 1 (f.addrs.map dF))),(12,.d (.v (.int .i64 k))),(11,.d (.v (.int .i64 s.faces.length))),(10,.d (.sl 2 (s.faces.map cX))),(3,.mref 1),(2,.d (.v (.bool false))),(1,.ptr 0 0)]∧h=[.box 107 ((bI s).map .d),.mp 1 false ents]) _ _ _ ⟨0,ents,XL _,by simpa using pZ.out,by simpa using lw.out,fun f h=>by simp at h,rfl,rfl,rfl⟩ (wf) ?_
  rintro m2 e h ⟨j,en2,hj,iF,xZ,x5,jk,rfl,rfl⟩ C2 kz;by_cases Az:j < f.addrs.length
  ·have mb:(j:Int) < (f.addrs.length:Int):=by omega
   have rf:=wi j (by omega);obtain⟨a,ha⟩:∃a,f.addrs[j]? =some a:=⟨_,Xj Az⟩;have Xb:=Xl ha;have fl:=Ho s.at_ a;have Ug:=iF a;have gx:f.addrs.take (j+1)=f.addrs.take j++[a]:=ah ha;replace gx:=Xk gx;replace jk:=Xk jk;replace x5:=Xk x5;replace xZ:=Xk xZ;by_cases hd:a∈(s.faces.take k).flatMap (·.addrs)++f.addrs.take j
   ·rw[if_pos hd]at Ug;have hr:dh s=false:=by
     have:¬(s.faces.flatMap (·.addrs)).Nodup:=by
      intro hn;have xS:((s.faces.take k).flatMap (·.addrs)++f.addrs.take (j+1)).Sublist (s.faces.flatMap (·.addrs)):=by
       conv=>rhs;rw[←YU k s.faces,oX hf,Y1,ZF]
       exact List.Sublist.append (List.Sublist.refl _) ((Y' _ _).trans (List.sublist_append_left _ _))
      have:=xS.nodup hn;rw[gx.out,←XT,qM]at this;exact this.2 hd
     unfold dh;simp[this]
    have hZ:kl (mo en2 [a] 2) [a]=some 2:=by rw[fZ,if_pos rfl]
    replace iF:=Xk iF;have cI:IntKind.i64.wrap 2=2:=by decide
    have hgt:decide ((2:Int)>1)=true:=rfl;exact bo;all_goals(rw[hr];exact ap.refl _)
   ·rw[if_neg hd]at Ug;have hZ:kl (mo en2 [a] 1) [a]=some 1:=by rw[fZ,if_pos rfl]
    have ly:=DA iF hd;replace iF:=Xk iF;replace ly:=Xk ly;have cI:IntKind.i64.wrap 1=1:=by decide
    have hgt:decide ((1:Int)>1)=false:=rfl;cases b4:kL s.at_ a with
    |false=>
     rw[b4]at fl;have hr:dh s=false:=bP.out (by
      rw[GI.out,b1,b2,b3];have:f.addrs.all (kL s.at_)=false:=by rw[YX];exact⟨a,Xb,by rw[b4];simp⟩
      rw[this];rfl)
     exact bo;all_goals(rw[hr];exact ap.refl _)
    |true=>
     rw[b4]at fl;refine ay ?_<;>intros;refine kz _ _ _ _ _ ?_ ⟨j+1,mo en2 [a] 1,Az,?_,?_,?_,rfl,rfl,rfl⟩ (wf)
     ·have:=jk.out;omega
     ·rw[gx.out,←XT];exact ly.out
     ·rw[gx.out,←XT,qM];exact⟨xZ.out,hd⟩
     ·intro b hb;rw[gx.out]at hb;rcases X4.1 hb with hb|hb
      ·exact x5.out b hb
      ·rw[X7.1 hb];exact b4
  ·obtain rfl:j=f.addrs.length:=by omega
   rw[Xq]at iF xZ x5;have vd:(s.faces.take (k+1)).flatMap (·.addrs)=(s.faces.take k).flatMap (·.addrs)++f.addrs:=by rw[ah hf,Y1];simp
   replace jk:=Xk jk;replace iF:=Xk iF;replace xZ:=Xk xZ;replace x5:=Xk x5;replace vd:=Xk vd;refine ay ?_<;>intros;refine hC _ _ _ _ _ ?_ ⟨k+1,en2,hlt,?_,?_,?_,rfl,rfl,rfl⟩ (wf)
   ·have:=hm.out;omega
   ·rw[vd.out];exact iF.out
   ·rw[vd.out];exact xZ.out
   ·intro g hg;rw[ah hf]at hg;rcases X4.1 hg with hg|hg
    ·exact bK.out g hg
    ·rw[X7.1 hg,GI.out,b1,b2,b3];simp only[YC,Bool.not_false];exact XB.2 x5.out
 ·obtain rfl:k=s.faces.length:=by omega
  rw[Xq]at pZ lw bK;have hr:dh s=eJ (·.id) s.faces:=by
   unfold dh;rw[XB.2 bK];simp[lw]
  replace hr:=Xk hr;replace pZ:=Xk pZ;replace lw:=Xk lw;replace bK:=Xk bK;replace hm:=Xk hm;refine ay ?_<;>intros;all_goals(rw[hr.out];exact ap.refl _)
def d9 (r:Rng):Bool:=cU r.pool&&(chk r.at_.at_ r.at_.len==0)
def lZ (v:Vpc)(s:Sbn):Bool:=cU s.id&&(eS v s.at_&&dh s)
def qe (v:Vpc):Bool:=(cU v.id&&(eJ (·.at_.at_) v.ranges&&eJ (·.id) v.subs))&&(v.ranges.all d9&&v.subs.all (lZ v))
def cn (v:Vpc):Int:=if kK v then 2 else if qe v&&(fH [] (v.ranges.map (·.at_))&&fH [] (v.subs.map (·.at_)))then 0 else 1
theorem Jj (r:Rng):ae prog 209 [.agg (cq r)] (.v (.int .i64 r.at_.at_)):=by
 refine pj func209 ntmps209 results209 ?_;exact bo
theorem Jk (s:Sbn):ae prog 211 [.agg (bI s)] (.v (.int .i64 s.id)):=by
 refine pj func211 ntmps211 results211 ?_;exact bo
theorem kN {α:Type}{p:α→Bool}{l:List α}{k:Nat}{x:α}(h:l[k]? =some x):(l.take (k+1)).all p=((l.take k).all p&&p x):=by
 rw[ah h,ZU];simp
theorem oY (v:Vpc):ae prog 125 [.agg (aD v)] (.v (.int .i64 (cn v))):=by
 have tY:=Tb v;cases hm:kK v with
 |true=>
  rw[hm]at tY;have hr:cn v=2:=by unfold cn;rw[if_pos hm]
  rw[hr];refine pj func125 ntmps125 results125 ?_;exact bo
 |false=>
 obtain⟨h4,h6,h8⟩:=wG hm;rw[hm]at tY;have hid:=kJ v.id;have xV:=Dz mz (fun r:Rng=>r.at_.at_) v.ranges 209 (by omega) (fun r _=>Jj r);have yi:=Jh my (fun s:Sbn=>s.id) v.subs 211 (by omega) (fun r _=>Jk r);obtain⟨F0,Uh⟩:∃F0,F0=(cU v.id&&(eJ (·.at_.at_) v.ranges&&eJ (·.id) v.subs)):=⟨_,rfl⟩;have BU:=Hp (v.ranges.map (·.at_)) (by rw[XF];omega);have BV:=Hp (v.subs.map (·.at_)) (by rw[XF];omega);have GA:cn v=if (F0&&v.ranges.all d9&&v.subs.all (lZ v))&&(fH [] (v.ranges.map (·.at_))&&fH [] (v.subs.map (·.at_)))then 0 else 1:=by
  unfold cn qe;rw[if_neg (by simp[hm]),Uh];simp only[Z']
 rw[GA];replace GA:=Xk GA;replace h8:=Xk h8;replace hm:=Xk hm;replace tY:=Xk tY;cases b1:cU v.id with
 |false=>
  rw[b1,Bool.false_and]at Uh;subst Uh;rw[b1]at hid;refine pj func125 ntmps125 results125 ?_;have z1z:=tY.out;have z2z:=tY.out;refine ay ?_<;>intros;refine cf af al (fun m e h=>∃(k g:Nat) (X:Bool),k≤v.ranges.length∧X=(false&&(v.ranges.take k).all d9)∧m=v.ranges.length - k∧e=[(28,.d (.v (.int .i64 k))),(27,.d (.v (.int .i64 v.ranges.length))),(26,.d (.sl 3 (v.ranges.map cq))),(5,.d (.v (.bool X))),(4,.d (.v (.slice none 0 0))),(3,.own 1 g),(2,.d (.v (.int .i64 0))),(1,.ptr 0 0)]∧
   h=[.box 88 ((aD v).map .d),.row 23 2 g (ab (((v.ranges.take k).map (·.at_)).map aK))]) _ _ _ ⟨0,0,false,XL _,by simp,rfl,rfl,rfl⟩ ((dZ (XL _) 3 23 2 rfl).trans (wf)) ?_
  rintro m e h ⟨k,g,X,hk,hX,hm0,rfl,rfl⟩ C hC;by_cases hlt:k < v.ranges.length
  ·have fy:(k:Int) < (v.ranges.length:Int):=by omega
   have dW:=wi k (by omega);obtain⟨r,hr⟩:∃r,v.ranges[k]? =some r:=⟨_,Xj hlt⟩;have EV:=kJ r.pool;have Wb:=pC r.at_;have pS:(YD k v.ranges).length=k:=by rw[Xp];omega
   have sF:(k+1)*16≤140737488355328:=by omega
   have x6:=kN (p:=d9) hr;have AA:d9 r=(cU r.pool&&(chk r.at_.at_ r.at_.len==0)):=rfl;generalize chk r.at_.at_ r.at_.len=K at*;generalize cU r.pool=I at*;replace hX:=Xk hX;replace x6:=Xk x6;replace AA:=Xk AA;replace hm0:=Xk hm0;replace hr:=Xk hr;have Wc:=hr.out;refine Ku ?_ ?_ ?_<;>intros;all_goals(refine hC _ _ _ _ _ ?_ ⟨k+1,g+1,_,hlt,?_,rfl,rfl,rfl⟩ (wf (hh:=(by rw[ah hr.out];simp only[aD,Xz,Xm,Xx,aK,←aW];rfl))))
   all_goals first
    |(have:=hm0.out;omega)
    |(have h1:=hX.out;have h2:=x6.out;have h3:=AA.out;clear BU BV xV yi hid EV Wb hC tY;grind)
  ·obtain rfl:k=v.ranges.length:=by omega
   rw[Xq]at hX ⊢;replace hX:=Xk hX;replace hm0:=Xk hm0;refine ay ?_<;>intros;refine cf af al (fun m e h=>∃(k g2:Nat) (Y:Bool),k≤v.subs.length∧Y=(X&&(v.subs.take k).all (lZ v))∧m=v.subs.length - k∧e=[(53,.d (.v (.int .i64 k))),(52,.d (.v (.int .i64 v.subs.length))),(51,.d (.sl 4 (v.subs.map bI))),(5,.d (.v (.bool Y))),(4,.own 2 g2),(3,.own 1 g),(2,.d (.v (.int .i64 0))),(1,.ptr 0 0)]∧
    h=[.box 88 ((aD v).map .d),.row 23 2 g (ab ((v.ranges.map (·.at_)).map aK)),.row 23 2 g2 (ab (((v.subs.take k).map (·.at_)).map aK))]) _ _ _ ⟨0,0,X,XL _,by simp,rfl,rfl,rfl⟩ ((dZ (XL _) 4 23 2 rfl).trans (wf)) ?_
   rintro m2 e h ⟨k,g2,Y,mX,hY,jk,rfl,rfl⟩ C hC;by_cases hlt:k < v.subs.length
   ·have fy:(k:Int) < (v.subs.length:Int):=by omega
    have dW:=wi k (by omega);obtain⟨s,hs⟩:∃s,v.subs[k]? =some s:=⟨_,Xj hlt⟩;have qs:=Xl hs;have Km:=kJ s.id;have Kn:=rV v s.at_ (by omega);have Wd:=A9 s (h8.out s qs).1 (h8.out s qs).2;have pS:(YD k v.subs).length=k:=by rw[Xp];omega
    have sF:(k+1)*16≤140737488355328:=by omega
    have x6:=kN (p:=lZ v) hs;have sx:lZ v s=(cU s.id&&(eS v s.at_&&dh s)):=rfl;generalize eS v s.at_=H at*;generalize cU s.id=I at*;generalize dh s=F at*;replace hY:=Xk hY;replace x6:=Xk x6;replace sx:=Xk sx;replace jk:=Xk jk;replace hs:=Xk hs;have We:=hs.out;refine Vl ?_ ?_ ?_ ?_<;>intros;all_goals(refine hC _ _ _ _ _ ?_ ⟨k+1,g2+1,_,hlt,?_,rfl,rfl,rfl⟩ (wf (hh:=(by rw[ah hs.out];simp only[aD,Xz,Xm,Xx,aK,←aW];rfl))))
    all_goals first
     |(have:=jk.out;omega)
     |(have h1:=hY.out;have h2:=x6.out;have h3:=sx.out;clear BU BV xV yi hid Km Kn Wd hC tY;grind)
   ·obtain rfl:k=v.subs.length:=by omega
    rw[Xq]at hY ⊢;replace hY:=Xk hY;replace jk:=Xk jk;have Wf:fH [] (v.ranges.map (·.at_))=fH [] (v.ranges.map (·.at_)):=rfl;generalize Sz:fH [] (v.ranges.map (·.at_))=A1 at*;generalize KK:fH [] (v.subs.map (·.at_))=A2 at*;replace Sz:=Xk Sz;replace KK:=Xk KK;clear Wf;refine ay ?_<;>intros;all_goals
     have h1:=hX.out;have h2:=hY.out;clear BU BV xV yi hid hC tY;first
      |exact ap.refl _
      |(rw[if_pos (by grind)];exact ap.refl _)
      |(rw[if_neg (by grind)];exact ap.refl _)
      |(exfalso;grind)
 |true=>
  rw[b1]at hid;cases b2:eJ (fun r:Rng=>r.at_.at_) v.ranges with
  |false=>
   rw[b1,b2,Bool.false_and,Bool.and_false]at Uh;subst Uh;rw[b2]at xV;refine pj func125 ntmps125 results125 ?_;have z1z:=tY.out;refine ay ?_<;>intros;refine cf af al (fun m e h=>∃(k g:Nat) (X:Bool),k≤v.ranges.length∧X=(false&&(v.ranges.take k).all d9)∧m=v.ranges.length - k∧e=[(28,.d (.v (.int .i64 k))),(27,.d (.v (.int .i64 v.ranges.length))),(26,.d (.sl 3 (v.ranges.map cq))),(5,.d (.v (.bool X))),(4,.d (.v (.slice none 0 0))),(3,.own 1 g),(2,.d (.v (.int .i64 0))),(1,.ptr 0 0)]∧
    h=[.box 88 ((aD v).map .d),.row 23 2 g (ab (((v.ranges.take k).map (·.at_)).map aK))]) _ _ _ ⟨0,0,false,XL _,by simp,rfl,rfl,rfl⟩ ((dZ (XL _) 3 23 2 rfl).trans (wf)) ?_
   rintro m e h ⟨k,g,X,hk,hX,hm0,rfl,rfl⟩ C hC;by_cases hlt:k < v.ranges.length
   ·have fy:(k:Int) < (v.ranges.length:Int):=by omega
    have dW:=wi k (by omega);obtain⟨r,hr⟩:∃r,v.ranges[k]? =some r:=⟨_,Xj hlt⟩;have EV:=kJ r.pool;have Wb:=pC r.at_;have pS:(YD k v.ranges).length=k:=by rw[Xp];omega
    have sF:(k+1)*16≤140737488355328:=by omega
    have x6:=kN (p:=d9) hr;have AA:d9 r=(cU r.pool&&(chk r.at_.at_ r.at_.len==0)):=rfl;generalize chk r.at_.at_ r.at_.len=K at*;generalize cU r.pool=I at*;replace hX:=Xk hX;replace x6:=Xk x6;replace AA:=Xk AA;replace hm0:=Xk hm0;replace hr:=Xk hr;have Wc:=hr.out;refine Ku ?_ ?_ ?_<;>intros;all_goals(refine hC _ _ _ _ _ ?_ ⟨k+1,g+1,_,hlt,?_,rfl,rfl,rfl⟩ (wf (hh:=(by rw[ah hr.out];simp only[aD,Xz,Xm,Xx,aK,←aW];rfl))))
    all_goals first
     |(have:=hm0.out;omega)
     |(have h1:=hX.out;have h2:=x6.out;have h3:=AA.out;clear BU BV xV yi hid EV Wb hC tY;grind)
   ·obtain rfl:k=v.ranges.length:=by omega
    rw[Xq]at hX ⊢;replace hX:=Xk hX;replace hm0:=Xk hm0;refine ay ?_<;>intros;refine cf af al (fun m e h=>∃(k g2:Nat) (Y:Bool),k≤v.subs.length∧Y=(X&&(v.subs.take k).all (lZ v))∧m=v.subs.length - k∧e=[(53,.d (.v (.int .i64 k))),(52,.d (.v (.int .i64 v.subs.length))),(51,.d (.sl 4 (v.subs.map bI))),(5,.d (.v (.bool Y))),(4,.own 2 g2),(3,.own 1 g),(2,.d (.v (.int .i64 0))),(1,.ptr 0 0)]∧
     h=[.box 88 ((aD v).map .d),.row 23 2 g (ab ((v.ranges.map (·.at_)).map aK)),.row 23 2 g2 (ab (((v.subs.take k).map (·.at_)).map aK))]) _ _ _ ⟨0,0,X,XL _,by simp,rfl,rfl,rfl⟩ ((dZ (XL _) 4 23 2 rfl).trans (wf)) ?_
    rintro m2 e h ⟨k,g2,Y,mX,hY,jk,rfl,rfl⟩ C hC;by_cases hlt:k < v.subs.length
    ·have fy:(k:Int) < (v.subs.length:Int):=by omega
     have dW:=wi k (by omega);obtain⟨s,hs⟩:∃s,v.subs[k]? =some s:=⟨_,Xj hlt⟩;have qs:=Xl hs;have Km:=kJ s.id;have Kn:=rV v s.at_ (by omega);have Wd:=A9 s (h8.out s qs).1 (h8.out s qs).2;have pS:(YD k v.subs).length=k:=by rw[Xp];omega
     have sF:(k+1)*16≤140737488355328:=by omega
     have x6:=kN (p:=lZ v) hs;have sx:lZ v s=(cU s.id&&(eS v s.at_&&dh s)):=rfl;generalize eS v s.at_=H at*;generalize cU s.id=I at*;generalize dh s=F at*;replace hY:=Xk hY;replace x6:=Xk x6;replace sx:=Xk sx;replace jk:=Xk jk;replace hs:=Xk hs;have We:=hs.out;refine Vl ?_ ?_ ?_ ?_<;>intros;all_goals(refine hC _ _ _ _ _ ?_ ⟨k+1,g2+1,_,hlt,?_,rfl,rfl,rfl⟩ (wf (hh:=(by rw[ah hs.out];simp only[aD,Xz,Xm,Xx,aK,←aW];rfl))))
     all_goals first
      |(have:=jk.out;omega)
      |(have h1:=hY.out;have h2:=x6.out;have h3:=sx.out;clear BU BV xV yi hid Km Kn Wd hC tY;grind)
    ·obtain rfl:k=v.subs.length:=by omega
     rw[Xq]at hY ⊢;replace hY:=Xk hY;replace jk:=Xk jk;have Wf:fH [] (v.ranges.map (·.at_))=fH [] (v.ranges.map (·.at_)):=rfl;generalize Sz:fH [] (v.ranges.map (·.at_))=A1 at*;generalize KK:fH [] (v.subs.map (·.at_))=A2 at*;replace Sz:=Xk Sz;replace KK:=Xk KK;clear Wf;refine ay ?_<;>intros;all_goals
      have h1:=hX.out;have h2:=hY.out;clear BU BV xV yi hid hC tY;first
       |exact ap.refl _
       |(rw[if_pos (by grind)];exact ap.refl _)
       |(rw[if_neg (by grind)];exact ap.refl _)
       |(exfalso;grind)
  |true=>
   rw[b1,b2,YC,YC]at Uh;subst Uh;rw[b2]at xV;generalize eJ (fun s:Sbn=>s.id) v.subs=F0 at*;refine pj func125 ntmps125 results125 ?_;have z1z:=tY.out;refine ay ?_<;>intros;refine cf af al (fun m e h=>∃(k g:Nat) (X:Bool),k≤v.ranges.length∧X=(F0&&(v.ranges.take k).all d9)∧m=v.ranges.length - k∧e=[(28,.d (.v (.int .i64 k))),(27,.d (.v (.int .i64 v.ranges.length))),(26,.d (.sl 3 (v.ranges.map cq))),(5,.d (.v (.bool X))),(4,.d (.v (.slice none 0 0))),(3,.own 1 g),(2,.d (.v (.int .i64 0))),(1,.ptr 0 0)]∧
    h=[.box 88 ((aD v).map .d),.row 23 2 g (ab (((v.ranges.take k).map (·.at_)).map aK))]) _ _ _ ⟨0,0,F0,XL _,by simp,rfl,rfl,rfl⟩ ((dZ (XL _) 3 23 2 rfl).trans (wf)) ?_
   rintro m e h ⟨k,g,X,hk,hX,hm0,rfl,rfl⟩ C hC;by_cases hlt:k < v.ranges.length
   ·have fy:(k:Int) < (v.ranges.length:Int):=by omega
    have dW:=wi k (by omega);obtain⟨r,hr⟩:∃r,v.ranges[k]? =some r:=⟨_,Xj hlt⟩;have EV:=kJ r.pool;have Wb:=pC r.at_;have pS:(YD k v.ranges).length=k:=by rw[Xp];omega
    have sF:(k+1)*16≤140737488355328:=by omega
    have x6:=kN (p:=d9) hr;have AA:d9 r=(cU r.pool&&(chk r.at_.at_ r.at_.len==0)):=rfl;generalize chk r.at_.at_ r.at_.len=K at*;generalize cU r.pool=I at*;replace hX:=Xk hX;replace x6:=Xk x6;replace AA:=Xk AA;replace hm0:=Xk hm0;replace hr:=Xk hr;have Wc:=hr.out;refine Ku ?_ ?_ ?_<;>intros;all_goals(refine hC _ _ _ _ _ ?_ ⟨k+1,g+1,_,hlt,?_,rfl,rfl,rfl⟩ (wf (hh:=(by rw[ah hr.out];simp only[aD,Xz,Xm,Xx,aK,←aW];rfl))))
    all_goals first
     |(have:=hm0.out;omega)
     |(have h1:=hX.out;have h2:=x6.out;have h3:=AA.out;clear BU BV xV yi hid EV Wb hC tY;grind)
   ·obtain rfl:k=v.ranges.length:=by omega
    rw[Xq]at hX ⊢;replace hX:=Xk hX;replace hm0:=Xk hm0;refine ay ?_<;>intros;refine cf af al (fun m e h=>∃(k g2:Nat) (Y:Bool),k≤v.subs.length∧Y=(X&&(v.subs.take k).all (lZ v))∧m=v.subs.length - k∧e=[(53,.d (.v (.int .i64 k))),(52,.d (.v (.int .i64 v.subs.length))),(51,.d (.sl 4 (v.subs.map bI))),(5,.d (.v (.bool Y))),(4,.own 2 g2),(3,.own 1 g),(2,.d (.v (.int .i64 0))),(1,.ptr 0 0)]∧
     h=[.box 88 ((aD v).map .d),.row 23 2 g (ab ((v.ranges.map (·.at_)).map aK)),.row 23 2 g2 (ab (((v.subs.take k).map (·.at_)).map aK))]) _ _ _ ⟨0,0,X,XL _,by simp,rfl,rfl,rfl⟩ ((dZ (XL _) 4 23 2 rfl).trans (wf)) ?_
    rintro m2 e h ⟨k,g2,Y,mX,hY,jk,rfl,rfl⟩ C hC;by_cases hlt:k < v.subs.length
    ·have fy:(k:Int) < (v.subs.length:Int):=by omega
     have dW:=wi k (by omega);obtain⟨s,hs⟩:∃s,v.subs[k]? =some s:=⟨_,Xj hlt⟩;have qs:=Xl hs;have Km:=kJ s.id;have Kn:=rV v s.at_ (by omega);have Wd:=A9 s (h8.out s qs).1 (h8.out s qs).2;have pS:(YD k v.subs).length=k:=by rw[Xp];omega
     have sF:(k+1)*16≤140737488355328:=by omega
     have x6:=kN (p:=lZ v) hs;have sx:lZ v s=(cU s.id&&(eS v s.at_&&dh s)):=rfl;generalize eS v s.at_=H at*;generalize cU s.id=I at*;generalize dh s=F at*;replace hY:=Xk hY;replace x6:=Xk x6;replace sx:=Xk sx;replace jk:=Xk jk;replace hs:=Xk hs;have We:=hs.out;refine Vl ?_ ?_ ?_ ?_<;>intros;all_goals(refine hC _ _ _ _ _ ?_ ⟨k+1,g2+1,_,hlt,?_,rfl,rfl,rfl⟩ (wf (hh:=(by rw[ah hs.out];simp only[aD,Xz,Xm,Xx,aK,←aW];rfl))))
     all_goals first
      |(have:=jk.out;omega)
      |(have h1:=hY.out;have h2:=x6.out;have h3:=sx.out;clear BU BV xV yi hid Km Kn Wd hC tY;grind)
    ·obtain rfl:k=v.subs.length:=by omega
     rw[Xq]at hY ⊢;replace hY:=Xk hY;replace jk:=Xk jk;have Wf:fH [] (v.ranges.map (·.at_))=fH [] (v.ranges.map (·.at_)):=rfl;generalize Sz:fH [] (v.ranges.map (·.at_))=A1 at*;generalize KK:fH [] (v.subs.map (·.at_))=A2 at*;replace Sz:=Xk Sz;replace KK:=Xk KK;clear Wf;refine P5 ?_ ?_<;>intros;all_goals
      have h1:=hX.out;have h2:=hY.out;clear BU BV xV yi hid hC tY;first
       |exact ap.refl _
       |(rw[if_pos (by grind)];exact ap.refl _)
       |(rw[if_neg (by grind)];exact ap.refl _)
       |(exfalso;grind)
def fI (s:Sbn)(v:PV):List PV:=[.d (.v (.int .i64 s.id)),.d (.v (.int .i64 s.at_.at_)),.d (.v (.int .i64 s.at_.len)),v]
def j4 (f:Fce)(v:PV):List PV:=[.d (.v (.int .i64 f.id)),v]
def hO {α:Type}(enc:α→List D)(pre:List α)(r:List PV)(post:List α):List (List PV):=ab (pre.map enc)++r::ab (post.map enc)
section
variable {α:Type}{enc:α→List D}
@[go_sem] theorem Vm (pre:List α)(r:List PV)(post:List α):(hO enc pre r post).length=pre.length+1+post.length:=by
 simp[hO,aC];omega
theorem wH (n:Nat):∀(l m:List (List PV)),ct n (l++m)=(ct n l&&ct n m)
 |[],m=>rfl
 |r::l,m=>by simp only[X6,ct,wH n l m,Z']
theorem DB (n:Nat)(pre:List α)(r:List PV)(post:List α):ct n (hO enc pre r post)=ai n r:=by
 simp only[hO,wH,ct,aq,YC,Yz]
theorem fW {A:Prop}(h:A:=by first|rfl|simp only[az,dY,aH,ai,ct,aj,aM,aq,DB,fI,j4,XD,X8,XU,ZY,decide_true,Yn,Yz]):A:=h
theorem gp (k g:Nat)(d:D)(pre:List α)(r:List PV)(post:List α):iV k g d (hO enc pre r post)=hO enc pre (jE k g d r) post:=by
 simp only[hO,bg,iV,cG]
theorem tB (pre:List α)(r:List PV)(post:List α)(q:α):hO enc pre r post++[(enc q).map .d]=hO enc pre r (post++[q]):=by
 simp[hO,ab]
@[go_sem] theorem UM (ρ:Nat→Nat)(pre:List α)(r:List PV)(post:List α):jn ρ (hO enc pre r post)=hO enc pre (ig ρ r) post:=by
 have app:∀(l m:List (List PV)),jn ρ (l++m)=jn ρ l++jn ρ m:=by
  intro l m;rw[en,en,en,Xz]
 simp only[hO,app,jn,vW]
theorem zS (f:PV→Option D):∀(l m:List (List PV)),cZ f (l++m)=match cZ f l,cZ f m with|some a,some b=>some (a++b)|_,_=>none
 |[],m=>by simp only[Ye,cZ];cases cZ f m<;>rfl
 |r::l,m=>by
  simp only[X6,cZ,zS f l m];cases cA f r<;>cases cZ f l<;>cases cZ f m<;>rfl
@[go_sem] theorem Td (h:Nat→Chunk)(n:Nat)(pre:List α)(r:List PV)(post:List α):cZ (aS h n) (hO enc pre r post)=match cA (aS h n) r with|some d=>some (pre.map enc++d::post.map enc)|none=>none:=by
 simp only[hO,zS,cZ,d6];cases cA (aS h n) r<;>rfl
@[go_sem] theorem Vn (pre:List α)(r:List PV)(post:List α):(hO enc pre r post)[pre.length]? =some r:=by
 unfold hO;rw[XP (by simp[aC])];simp[aC]
@[go_sem] theorem Vo (pre:List α)(r r':List PV)(post:List α):(hO enc pre r post).set pre.length r'=hO enc pre r' post:=by
 unfold hO;rw[Zc _ _ (by simp[aC])];simp[aC]
end
def fw {α:Type}(key:α→Int)(x:α)(l:List α):List α:=l.take (m4 key (key x) l)++x::l.drop (m4 key (key x) l)
theorem fR {α:Type}(key:α→Int)(x:α)(l:List α):(fw key x l).Perm (l++[x]):=by
 unfold fw;have h:l++[x]=(l.take (m4 key (key x) l)++l.drop (m4 key (key x) l))++[x]:=by rw[YU]
 rw[h,XT];refine List.Perm.append_left _ ?_;exact(List.perm_append_singleton _ _).symm
theorem mF {α:Type}{key:α→Int}{x y:α}{l:List α}:y∈fw key x l↔y=x∨y∈l:=by
 rw[(fR key x l).mem_iff];simp[or_comm]
theorem io {α:Type}(key:α→Int)(x:α)(l:List α):(fw key x l).length=l.length+1:=by
 rw[(fR key x l).length_eq];simp
theorem fJ {α:Type}{key:α→Int}{x:α}{l:List α}(hs:l.Pairwise fun a b=>key a < key b)(hn:∀y∈l,key y≠key x):(fw key x l).Pairwise fun a b=>key a < key b:=by
 have y8:∀y∈l.take (m4 key (key x) l),key y < key x:=by
  intro y hy;obtain⟨i,hi,rfl⟩:=Yf.1 hy;rw[ZX];have:=List.not_of_lt_findIdx (show i < m4 key (key x) l by rw[Xp]at hi;omega);simp at this;exact this
 have Ia:∀y∈l.drop (m4 key (key x) l),key x < key y:=by
  intro y hy;have hym:=Yb hy;obtain⟨i,hi,rfl⟩:=Yf.1 hy;rw[List.getElem_drop]at hym ⊢;rw[XS]at hi;have hlt:m4 key (key x) l < l.length:=by omega
  have h0:=List.findIdx_getElem (xs:=l) (p:=fun y=>decide (key x≤key y)) (w:=hlt);simp only[decide_eq_true_eq]at h0;change key x≤key (l[m4 key (key x) l]'hlt)at h0;have bH:=hn _ hym;rcases Zl i with h|h
  ·subst h;simp only[X0]at bH ⊢;omega
  ·have:=XM.1 hs _ (m4 key (key x) l+i) hlt (by omega) (by omega);omega
 unfold fw;rw[Zp,YM];refine⟨hs.sublist (Y' _ _),⟨Ia,hs.sublist (List.drop_sublist _ _)⟩,fun a ha b hb=>?_⟩;rcases XY.1 hb with rfl|hb
 ·exact y8 a ha
 ·have:=y8 a ha;have:=Ia b hb;omega
def Vpc.zero:Vpc:=⟨0,[],[]⟩
theorem Vpc.zero_le:ap (.agg [.v (.int .i64 0),.v (.slice none 0 0),.v (.slice none 0 0)]) (.agg (aD Vpc.zero)):=by repeat(first|exact ap.refl _|exact ap.nil _|(refine ap.tup ?_)|(refine ap.agg ?_ rfl)|exact trivial|(refine And.intro ?_ ?_))
structure VpcOK (v:Vpc):Prop where
 n4:v.ranges.length≤4
 n6:v.subs.length≤6
 n8:∀s∈v.subs,s.faces.length≤8∧∀f∈s.faces,f.addrs.length≤4
 id:cU v.id=true
 rr:v.ranges.Pairwise fun a b=>a.at_.at_ < b.at_.at_
 rs:v.subs.Pairwise fun a b=>a.id < b.id
 ranges:∀r∈v.ranges,d9 r=true
 subs:∀s∈v.subs,lZ v s=true
 ar:fH [] (v.ranges.map (·.at_))=true
 as_:fH [] (v.subs.map (·.at_))=true
theorem Mx {v:Vpc}:cn v=0↔kK v=false∧qe v=true∧fH [] (v.ranges.map (·.at_))=true∧fH [] (v.subs.map (·.at_))=true:=by
 unfold cn;generalize fH [] (v.ranges.map (·.at_))=A;generalize fH [] (v.subs.map (·.at_))=B;cases kK v<;>cases qe v<;>cases A<;>cases B<;>simp
theorem bc {v:Vpc}(h:cn v=0):VpcOK v:=by
 obtain⟨h1,h2,h3,h4⟩:=Mx.1 h;obtain⟨a,b,c⟩:=wG h1;unfold qe at h2;simp only[Xy,XB,fQ]at h2;exact⟨a,b,c,h2.1.1,h2.1.2.1,h2.1.2.2,h2.2.1,h2.2.2,h3,h4⟩
theorem j5 {r:Rng}(h:d9 r=true):r.at_.right=true:=by
 unfold d9 at h;simp only[Xy,beq_iff_eq]at h;simp[Pfx.right,bq,h.2]
theorem DC {p q:Pfx}(hp:p.right=true)(hq:q.right=true)(h:p.meets q=false):p.at_≠q.at_:=fun e=>by
 have b1:=p.hi_bd hp;have b2:=q.hi_bd hq;rw[gL.2 ⟨hp,hq,by omega,by omega⟩]at h;cases h
def oZ (v:Vpc)(r:Rng):Int:=
 if chk r.at_.at_ r.at_.len≠0∨cU r.pool=false then 1 else
 if (v.ranges.any fun q=>q.at_.meets r.at_)=true then 6 else if v.ranges.length=4 then 2 else 0
def dK (v:Vpc)(r:Rng):Vpc × Int:=
 if cn v≠0 then (Vpc.zero,cn v)else if oZ v r≠0 then (Vpc.zero,oZ v r)else ({v with ranges:=fw (·.at_.at_) r v.ranges},0)
theorem pF (n lo hi:Int):ae prog 55 [.v (.int .i64 n),.v (.int .i64 lo),.v (.int .i64 hi)] (.v (.bool (decide (lo≤n)&&decide (n≤hi)))):=by
 refine pj func55 ntmps55 results55 ?_;exact bo;all_goals exact Mr (by grind)
theorem My {α:Type}{p:α→Bool}{l:List α}{k:Nat}{x:α}(hx:l[k]? =some x)(hp:p x=true)(cB:(l.take k).all (fun y=>!p y)=true):db p l=k:=
 fh hx hp fun y hy=>by have:=XB.1 cB y hy;simpa using this
theorem P8 {α:Type}{p:α→Bool}{l:List α}(cB:(l.take l.length).all (fun y=>!p y)=true):db p l= -1:=
 fi fun y hy=>by rw[Xq]at cB;have:=XB.1 cB y hy;simpa using this
theorem fp {α:Type}{p:α→Bool}{l:List α}{k:Nat}{x:α}(hx:l[k]? =some x)(cB:(l.take k).all p=true)(h:p x=true):(l.take (k+1)).all p=true:=by rw[kN hx,cB,h];rfl
theorem Jl (v:Vpc)(p:Pfx)(hl:v.ranges.length≤1000000000):ae prog 138 [.agg (aD v),.agg (aK p)] (.v (.bool (eS v p))):=by
 obtain⟨R,hR⟩:∃R,R=eS v p:=⟨_,rfl⟩;rw[←hR];replace hR:=Xk hR;refine pj func138 ntmps138 results138 ?_;refine ay ?_<;>intros;refine br af al v.ranges (fun k=>(v.ranges.take k).all (fun r=>!(jq p r.at_))=true) (fun k=>[(5,.d (.v (.int .i64 k))),(4,.d (.v (.bool false))),(3,.ptr 1 0),(2,.ptr 0 0)]) (fun _=>[.box 88 ((aD v).map .d),.box 23 ((aK p).map .d)]) rfl (wf) ?_ ?_
 ·intro k r hr hk hI C hC;have fy:(k:Int) < (v.ranges.length:Int):=by omega
  have dW:=wi k (by omega);have hi:=FL p r.at_;rw[A8]at hi;replace hI:=Xk hI;cases h1:jq p r.at_ with
  |true=>
   rw[h1]at hi;have hb:R=true:=by rw[hR.out];exact Yd.2 ⟨r,Xl hr,h1⟩
   rw[hb];replace hb:=Xk hb;exact bo;all_goals exact ap.refl _
  |false=>
   rw[h1]at hi;have rj:=Xk (fp (p:=fun r:Rng=>!(jq p r.at_)) hr hI.out (by rw[h1];rfl));refine ay ?_<;>intros;exact hC _ _ rj.out (wf)
 ·intro hI C;rw[Xq]at hI;have hb:R=false:=by rw[hR.out];unfold eS;rw[Yw];intro x hx;have:=XB.1 hI x hx;simpa using this
  rw[hb];replace hb:=Xk hb;replace hI:=Xk hI;exact bo;all_goals exact ap.refl _
theorem Mz (s:Sbn)(x:Int):ae prog 226 [.agg (bI s),.v (.int .i64 x)] (.v (.bool (kL s.at_ x))):=by
 have hh:ae prog 224 [.agg (aK s.at_),.v (.int .i64 x)] (.v (.bool (kH s.at_.at_ s.at_.len x))):=Jg s.at_ x;cases h1:kH s.at_.at_ s.at_.len x with
 |false=>
  have hr:kL s.at_ x=false:=by unfold kL;rw[rU,h1];rfl
  rw[h1]at hh;rw[hr];refine pj func226 ntmps226 results226 ?_;exact bo;all_goals exact ap.refl _
 |true=>
  have SA:=pE.1 h1;have OG:=S8 s.at_ (by rw[←Pfx.right];exact SA.1);have a0t:mD s.at_.at_ s.at_.len=s.at_.hi - 1:=rfl;have hr:kL s.at_ x=((x !=s.at_.at_)&&(x !=s.at_.hi - 1)):=by
   unfold kL;rw[rU,h1,YC,Yl];have:s.at_.hi=s.at_.at_+gh s.at_.len:=rfl;simp only[Xy,decide_eq_true_eq,bne_iff_ne];omega
  rw[a0t]at OG;rw[h1]at hh;rw[hr];have OG:ae prog 136 [.agg (aK s.at_)] (.v (.int .i64 (s.at_.hi - 1))):=OG;generalize s.at_.hi - 1=Z at*;cases h2:(x !=s.at_.at_)with
  |false=>
   refine pj func226 ntmps226 results226 ?_;exact bo;all_goals exact ap.refl _
  |true=>
   refine pj func226 ntmps226 results226 ?_;exact bo;all_goals exact ap.refl _
theorem Jm (v:Vpc)(hl:v.subs.length≤9223372036854775807)(hf:∀s∈v.subs,s.faces.length≤9223372036854775807):ae prog 137 [.agg (aD v)] (.v (.bool (kK v))):=by
 obtain⟨R,hR⟩:∃R,R=kK v:=⟨_,rfl⟩;rw[←hR];replace hR:=Xk hR;unfold kK at hR;cases h1:decide ((v.ranges.length:Int)>4)with
 |true=>
  have hb:R=true:=by rw[hR.out,h1];rfl
  rw[hb];replace hb:=Xk hb;refine pj func137 ntmps137 results137 ?_;exact bo;all_goals exact ap.refl _
 |false=>
  cases h2:decide ((v.subs.length:Int)>6)with
  |true=>
   have hb:R=true:=by rw[hR.out,h1,h2];rfl
   rw[hb];replace hb:=Xk hb;refine pj func137 ntmps137 results137 ?_;exact bo;all_goals exact ap.refl _
  |false=>
   have cJ:R=v.subs.any nR:=by rw[hR.out,h1,h2];rfl
   clear hR;replace cJ:=Xk cJ;refine pj func137 ntmps137 results137 ?_;refine ay ?_<;>intros;refine br af al v.subs (fun k=>(v.subs.take k).all (fun s=>!(nR s))=true) (fun k=>[(3,.d (.v (.int .i64 k))),(2,.d (.v (.bool false))),(1,.ptr 0 0)]) (fun _=>[.box 88 ((aD v).map .d)]) rfl (wf) ?_ ?_
   ·intro k s hs hk hI C hC;have fy:(k:Int) < (v.subs.length:Int):=by omega
    have dW:=wi k (by omega);have jC:=hf s (Xl hs);have Wg:nR s=true→R=true:=fun h=>by rw[cJ.out];exact Yd.2 ⟨s,Xl hs,h⟩
    have fU:nR s=false→(v.subs.take (k+1)).all (fun s=>!(nR s))=true:=fun h=>fp hs hI (by rw[h];rfl);have Ui:nR s=(decide ((s.faces.length:Int)>8)||s.faces.any qd):=rfl;replace hI:=Xk hI;replace fU:=Xk fU;cases h3:decide ((s.faces.length:Int)>8)with
    |true=>
     have hb:R=true:=Wg (by rw[Ui,h3];rfl);rw[hb];replace hb:=Xk hb;clear Wg Ui;exact bo;all_goals exact ap.refl _
    |false=>
     rw[h3,Z0]at Ui;replace Wg:=Xk Wg;replace Ui:=Xk Ui;refine ay ?_<;>intros;refine br af al s.faces (fun j=>(s.faces.take j).all (fun f=>!(qd f))=true) (fun j=>[(4,.d (.v (.int .i64 j))),(3,.d (.v (.int .i64 k))),(2,.d (.v (.bool false))),(1,.ptr 0 0)]) (fun _=>[.box 88 ((aD v).map .d)]) rfl (wf) ?_ ?_
     ·intro j f hfj hj hJ C2 kz;have mb:(j:Int) < (s.faces.length:Int):=by omega
      have rf:=wi j (by omega);replace hJ:=Xk hJ;cases h4:decide ((f.addrs.length:Int)>4)with
      |true=>
       have hb:R=true:=Wg.out (by rw[Ui.out];exact Yd.2 ⟨f,Xl hfj,h4⟩);rw[hb];replace hb:=Xk hb;exact bo;all_goals exact ap.refl _
      |false=>
       have Wh:=Xk (fp (p:=fun f:Fce=>!(qd f)) hfj hJ.out (by unfold qd;rw[h4];rfl));refine ay ?_<;>intros;exact kz _ _ Wh.out (wf)
     ·intro hJ C2;rw[Xq]at hJ;have rj:=fU.out (by rw[Ui.out,Yw];intro x hx;have:=XB.1 hJ x hx;simpa using this);replace hJ:=Xk hJ;replace rj:=Xk rj;refine ay ?_<;>intros;exact hC _ _ rj.out (wf)
   ·intro hI C;rw[Xq]at hI;have hb:R=false:=by rw[cJ.out,Yw];intro x hx;have:=XB.1 hI x hx;simpa using this
    rw[hb];replace hb:=Xk hb;replace hI:=Xk hI;exact bo;all_goals exact ap.refl _
theorem FN {s:Sbn}{f:Fce}(hf:f∈s.faces)(h:kM s.at_ f=false):dh s=false:=by
 unfold dh;rw[show s.faces.all (kM s.at_)=false from by rw[YX];exact⟨f,hf,by rw[h];simp⟩];rfl
theorem DD {s:Sbn}{k:Nat}{x y:Fce}(h0:0 < k)(hx:s.faces[k - 1]? =some x)(hy:s.faces[k]? =some y)(h:x.id≥y.id):dh s=false:=by
 have:eJ (fun f:Fce=>f.id) s.faces=false:=by
  rw[YK,ne_eq,ew];intro hr;obtain⟨hl,he⟩:=Xo.1 hy;obtain⟨Uj,Wi⟩:=Xo.1 hx;have h1:=hr (k - 1) (by omega);simp only[show k - 1+1=k by omega,he,Wi]at h1;omega
 unfold dh;simp only[this,Bool.and_false]
theorem FO {p:Pfx}{f:Fce}{k:Nat}{x y:Int}(h0:0 < k)(hx:f.addrs[k - 1]? =some x)(hy:f.addrs[k]? =some y)(h:x≥y):kM p f=false:=by
 have:eJ (fun x=>x) f.addrs=false:=by
  rw[YK,ne_eq,ew];intro hr;obtain⟨hl,he⟩:=Xo.1 hy;obtain⟨Uj,Wi⟩:=Xo.1 hx;have h1:=hr (k - 1) (by omega);simp only[show k - 1+1=k by omega,he,Wi]at h1;omega
 unfold kM;simp[this]
theorem FP {s:Sbn}{k:Nat}{f:Fce}{a:Int}(hf:s.faces[k]? =some f)(ha:a∈f.addrs)(hd:a∈(s.faces.take k).flatMap (·.addrs)):dh s=false:=by
 have:¬(s.faces.flatMap (·.addrs)).Nodup:=by
  intro hn;rw[←YU k s.faces,oX hf,Y1,ZF,X']at hn;exact hn.2.2 a hd a (ZW _ ha) rfl
 unfold dh;simp[this]
theorem wI {α:Type}{key:α→Int}{l:List α}{k:Nat}{y:α}(hy:l[k]? =some y)(h:∀j (h:j+1 < l.length),j+1 < k→key l[j] < key l[j+1])(hs:∀x,0 < k→l[k - 1]? =some x→key x < key y):∀j (h:j+1 < l.length),j+1 < k+1→key l[j] < key l[j+1]:=by
 intro j hj BT;rcases XO (j+1) k with h1|h1
 ·exact h j hj h1
 ·obtain rfl:k=j+1:=by omega
  obtain⟨hl,he⟩:=Xo.1 hy;rw[he];exact hs _ (by omega) (Xj (by omega))
theorem DE (s:Sbn)(h8:s.faces.length≤8)(h4:∀f∈s.faces,f.addrs.length≤4):ae prog 139 [.agg (bI s)] (.v (.bool (dh s))):=by
 obtain⟨R,hR⟩:∃R,R=dh s:=⟨_,rfl⟩;rw[←hR];replace hR:=Xk hR;refine pj func139 ntmps139 results139 ?_;refine ay ?_<;>intros;refine cf af al (fun m e h=>∃(k g:Nat) (A:List Int),k≤s.faces.length∧A=(s.faces.take k).flatMap (·.addrs)∧A.length≤4*k∧A.Nodup∧(s.faces.take k).all (kM s.at_)=true∧(∀j (h:j+1 < s.faces.length),j+1 < k→s.faces[j].id < s.faces[j+1].id)∧m=s.faces.length - k∧
  e=[(4,.d (.v (.int .i64 k))),(3,.own 1 g),(2,.d (.v (.bool false))),(1,.ptr 0 0)]∧h=[.box 107 ((bI s).map .d),.row 3 1 g (ab (A.map dF))]) _ _ _ ⟨0,0,[],XL _,rfl,XL _,List.nodup_nil,rfl,fun j h h1=>by omega,rfl,rfl,rfl⟩ ((dZ (XL _) 3 3 1 rfl).trans (wf)) ?_
 rintro m e h ⟨k,g,A,hk,hA,hAl,lw,bK,BW,hm,rfl,rfl⟩ C hC;replace hm:=Xk hm;replace hA:=Xk hA;replace lw:=Xk lw;replace bK:=Xk bK;replace BW:=Xk BW;by_cases hlt:k < s.faces.length
 ·have fy:(k:Int) < (s.faces.length:Int):=by omega
  have dW:=wi k (by omega);have GH:decide ((k:Int)>0)=true→IntKind.i64.wrap ((k:Int) - 1)=((k - 1:Nat):Int):=fun h=>by have:=of_decide_eq_true h;rw[IntKind.wrap_i64];omega
  obtain⟨f,hf⟩:∃f,s.faces[k]? =some f:=⟨_,Xj hlt⟩;obtain⟨y,hy⟩:∃y,s.faces[k - 1]? =some y:=⟨_,Xj (by omega)⟩;have fV:=Xl hf;have jC:=h4 f fV;have hw:ae prog 55 [.v (.int .i64 f.id),.v (.int .i64 1),.v (.int .i64 65536)] (.v (.bool (cU f.id))):=pF _ _ _;have GJ:(0 < k∧y.id≥f.id)→R=false:=fun h=>by rw[hR.out];exact DD h.1 hy hf h.2
  have UU:kM s.at_ f=false→R=false:=fun h=>by rw[hR.out];exact FN fV h
  have Xc:∀a∈f.addrs,a∈A→R=false:=fun a h1 h2=>by rw[hR.out];exact FP hf h1 (by rw[←hA.out];exact h2)
  have gB:kM s.at_ f=(cU f.id&&(!((f.addrs.length:Int)==0)&&(eJ (fun x=>x) f.addrs&&f.addrs.all (kL s.at_)))):=rfl;replace GJ:=Xk GJ;replace UU:=Xk UU;replace Xc:=Xk Xc;replace gB:=Xk gB;cases b1:cU f.id with
  |false=>
   have hr:R=false:=UU.out (by rw[gB.out,b1];rfl);rw[b1]at hw;rw[hr];replace hr:=Xk hr;exact bo;all_goals exact ap.refl _
  |true=>
   rw[b1]at hw;cases b2:((f.addrs.length:Int)==0)with
   |true=>
    have hr:R=false:=UU.out (by rw[gB.out,b1,b2];rfl);rw[hr];replace hr:=Xk hr;exact bo;all_goals exact ap.refl _
   |false=>
    refine Ku ?_ ?_ ?_<;>intros;all_goals first
     |(exact Mr (GJ.out (by clear hw hC;grind)).symm)
     |skip
    all_goals
     have fU:0 < k→y.id < f.id:=by clear hw hC;grind
     replace fU:=Xk fU;refine cf af al (fun m e h=>∃(j:Nat),j≤f.addrs.length∧(f.addrs.take j).all (kL s.at_)=true∧(∀i (h:i+1 < f.addrs.length),i+1 < j→f.addrs[i] < f.addrs[i+1])∧(f.addrs.take j).all (fun a=>!(A.contains a))=true∧m=f.addrs.length - j∧
      e=[(6,.d (.v (.int .i64 j))),(5,.ptr 2 0),(4,.d (.v (.int .i64 k))),(3,.own 1 g),(2,.d (.v (.bool false))),(1,.ptr 0 0)]∧h=[.box 107 ((bI s).map .d),.row 3 1 g (ab (A.map dF)),.box 110 ((cX f).map .d)]) _ _ _ ⟨0,XL _,rfl,fun j h h1=>by omega,rfl,rfl,rfl,rfl⟩ (wf) ?_
     rintro m2 e h ⟨j,hj,fl,OH,cB,jk,rfl,rfl⟩ C2 kz;replace jk:=Xk jk;replace fl:=Xk fl;replace OH:=Xk OH;replace cB:=Xk cB;by_cases Az:j < f.addrs.length
     ·have mb:(j:Int) < (f.addrs.length:Int):=by omega
      have rf:=wi j (by omega);have hwi:decide ((j:Int)>0)=true→IntKind.i64.wrap ((j:Int) - 1)=((j - 1:Nat):Int):=fun h=>by have:=of_decide_eq_true h;rw[IntKind.wrap_i64];omega
      obtain⟨a,ha⟩:∃a,f.addrs[j]? =some a:=⟨_,Xj Az⟩;obtain⟨b,hb⟩:∃b,f.addrs[j - 1]? =some b:=⟨_,Xj (by omega)⟩;have Xb:=Xl ha;have OI:=Mz s a;have BR:(0 < j∧b≥a)→R=false:=fun h=>UU.out (FO h.1 hb ha h.2);replace BR:=Xk BR;cases b3:kL s.at_ a with
      |false=>
       have hr:R=false:=UU.out (by rw[gB.out,show f.addrs.all (kL s.at_)=false from by rw[YX];exact⟨a,Xb,by rw[b3];simp⟩];simp);rw[b3]at OI;rw[hr];replace hr:=Xk hr;exact bo;all_goals exact ap.refl _
      |true=>
       rw[b3]at OI;refine Ku ?_ ?_ ?_<;>intros;all_goals first
        |(exact Mr (BR.out (by clear hw hC kz OI;grind)).symm)
        |skip
       all_goals
        have Ko:0 < j→b < a:=by clear hw hC kz OI;grind
        replace Ko:=Xk Ko;refine br af al A (fun q=>(A.take q).all (fun x=>!(x==a))=true) (fun q=>[(7,.d (.v (.int .i64 q))),(6,.d (.v (.int .i64 j))),(5,.ptr 2 0),(4,.d (.v (.int .i64 k))),(3,.own 1 g),(2,.d (.v (.bool false))),(1,.ptr 0 0)])
         (fun _=>[.box 107 ((bI s).map .d),.row 3 1 g (ab (A.map dF)),.box 110 ((cX f).map .d)]) rfl (wf) ?_ ?_
        ·intro q x hx hq hQ C3 RQ;have hqI:(q:Int) < (A.length:Int):=by omega
         have cE:=wi q (by omega);replace hQ:=Xk hQ;cases b4:(x==a)with
         |true=>
          have hr:R=false:=Xc.out a Xb (by rw[←eq_of_beq b4];exact Xl hx);rw[hr];replace hr:=Xk hr;exact bo;all_goals exact ap.refl _
         |false=>
          have hQ2:=Xk (fp (p:=fun x:Int=>!(x==a)) hx hQ.out (by rw[b4];rfl));repeat' (first|(with_reducible refine And.intro ?_ ?_)|(with_reducible refine dO (fun _=>?_) (fun _=>?_))|(with_reducible refine aN (fun _=>?_) (fun _=>?_))|(with_reducible refine cg (by kernel_rfl))|simp -dsimp only[go_sem,seval, *,bI,cX,dF,hqI,cE,ha,hx,b4,undef]|((with_reducible refine ci ?_);simp -dsimp only[go_sem,seval,bI,cX,dF,hqI,cE,ha,hx,b4,undef];first|refine aP (by first|assumption|fail) (by first|exact .inl rfl|exact .inr rfl) ?_|(refine aO (by assumption) ?_ ?_ ?_;(solve|(repeat(first|exact ap.refl _|exact ap.nil _|(refine ap.tup ?_)|(refine ap.agg ?_ rfl)|exact trivial|(refine And.intro ?_ ?_))));(solve|exact .inl rfl|exact .inr rfl)))|fail|omega|exact decide_eq_true (by omega)|exact ap.refl _)
          exact RQ _ _ hQ2.out (wf)
        ·intro hQ C3;rw[Xq]at hQ;have SB:A.contains a=false:=by
          rw[YK,ne_eq,List.contains_iff_mem];intro hm;have:=XB.1 hQ a hm;simp at this
         replace hQ:=Xk hQ;replace SB:=Xk SB;refine ay ?_<;>intros;refine kz _ _ _ _ _ ?_ ⟨j+1,Az,fp ha fl.out b3,wI (key:=fun x:Int=>x) ha OH.out (fun x h0 hx=>by rw[hb]at hx;rw[←XX.inj hx];exact Ko.out h0),fp ha cB.out (by rw[SB.out];rfl),rfl,rfl,rfl⟩ (wf);have:=jk.out;omega
     ·obtain rfl:j=f.addrs.length:=by omega
      have fl:=fl.out;have cB:=cB.out;rw[Xq]at fl cB;have oe:kM s.at_ f=true:=by
       rw[gB.out,b1,b2,fl,(ew f.addrs).2 (fun i hi=>OH.out i hi (by omega))];rfl
      have KK:A++f.addrs=(s.faces.take (k+1)).flatMap (·.addrs):=by rw[ah hf,Y1,←hA.out];simp
      have Wj:f.addrs.Nodup:=by
       have h1:=(fQ (key:=fun x:Int=>x) f.addrs).1 ((ew f.addrs).2 (fun i hi=>OH.out i hi (by omega)));exact h1.imp (fun h=>by omega)
      have xZ:(A++f.addrs).Nodup:=by
       rw[X'];refine⟨lw.out,Wj,fun x hx y hy e=>?_⟩;subst e;have:=XB.1 cB x hy;rw[List.contains_iff_mem.2 hx]at this;simp at this
      have sF:(A.length+f.addrs.length)*8≤140737488355328:=by omega
      replace cB:=Xk cB;replace fl:=Xk fl;replace oe:=Xk oe;replace KK:=Xk KK;replace Wj:=Xk Wj;replace xZ:=Xk xZ;refine ay ?_<;>intros;refine hC _ _ _ _ _ ?_ ⟨k+1,g+1,A++f.addrs,hlt,KK.out,by rw[Xt];omega,xZ.out,fp hf bK.out oe.out,wI (key:=fun f:Fce=>f.id) hf BW.out (fun x h0 hx=>by rw[hy]at hx;rw[←XX.inj hx];exact fU.out h0),rfl,rfl,rfl⟩ (wf (hh:=(by simp only[bI,cX,Xz,Xm,Xx,←aW];rfl)));have:=hm.out;omega
 ·obtain rfl:k=s.faces.length:=by omega
  have hr:R=true:=by
   have bK:=bK.out;have hA:=hA.out;rw[Xq]at bK hA;rw[hR.out];unfold dh;rw[bK,←hA,(ew s.faces).2 (fun i hi=>BW.out i hi (by omega))];simp[lw.out]
  rw[hr];replace hr:=Xk hr;exact bo;all_goals exact ap.refl _
theorem DF:∀(pre l:List Pfx),fH pre l=true↔l.Pairwise (fun a b=>b.meets a=false)∧∀a∈pre,∀b∈l,b.meets a=false
 |pre,[]=>by simp[fH]
 |pre,p::l=>by
  simp only[fH,Xy,ZV,Yw,Bool.not_eq_true,DF (pre++[p]) l,YM,X4,XY,List.not_mem_nil,or_false];constructor
  ·rintro⟨h1,h2,h3⟩;refine⟨⟨fun b hb=>h3 p (.inr rfl) b hb,h2⟩,fun a ha b hb=>?_⟩;rcases hb with rfl|hb
   ·exact h1 a ha
   ·exact h3 a (.inl ha) b hb
  ·rintro⟨⟨h1,h2⟩,h3⟩;refine⟨fun x hx=>h3 x hx p (.inl rfl),h2,fun a ha b hb=>?_⟩;rcases ha with ha|rfl
   ·exact h3 a ha b (.inr hb)
   ·exact h1 b hb
theorem o0 {l:List Pfx}:fH [] l=true↔l.Pairwise (fun a b=>b.meets a=false):=by
 rw[DF];simp
theorem MA {l:List Pfx}(hr:∀p∈l,p.right=true)(hs:l.Pairwise fun a b=>a.at_ < b.at_)(ha:∀j (h:j+1 < l.length),l[j].meets l[j+1]=false):fH [] l=true:=by
 rw[o0,XM];intro i j hi hj hij;rw[YK,ne_eq,gL];rintro⟨-,-,h1,h2⟩;have h3:=ha i (by omega);have r1:=hr l[i] (Ym hi);have r2:=hr l[i+1] (Ym (by omega));rw[YK,ne_eq,gL]at h3;have s1:=XM.1 hs i (i+1) hi (by omega) (by omega);have s2:l[i+1].at_≤l[j].at_:=by
  rcases XO (i+1) j with h|h
  ·have:=XM.1 hs (i+1) j (by omega) hj h;omega
  ·obtain rfl:j=i+1:=by omega
   exact Int.le_refl _
 have b2:=l[i+1].hi_bd r2;exact h3 ⟨r1,r2,by omega,by omega⟩
theorem MB {v:Vpc}(hm:kK v=false)(h:qe v=false∨fH [] (v.ranges.map (·.at_))=false∨fH [] (v.subs.map (·.at_))=false):cn v=1:=by
 unfold cn;rw[if_neg (by simp[hm]),if_neg];rintro h1;simp only[Xy]at h1;rcases h with h|h|h<;>simp[h]at h1
theorem DG {l:List Pfx}{i j:Nat}{x y:Pfx}(hij:i < j)(hx:l[i]? =some x)(hy:l[j]? =some y)(h:x.meets y=true):fH [] l=false:=by
 rw[YK,ne_eq,o0];intro hp;obtain⟨h1,rfl⟩:=Xo.1 hx;obtain⟨h2,rfl⟩:=Xo.1 hy;have:=XM.1 hp i j h1 h2 hij;rw[←jr]at this h;unfold oS at this h;grind
theorem DH {α:Type}{key:α→Int}{l:List α}{k:Nat}{x y:α}(h0:0 < k)(hx:l[k - 1]? =some x)(hy:l[k]? =some y)(h:key x≥key y):eJ key l=false:=by
 rw[YK,ne_eq,ew];intro hr;obtain⟨hl,he⟩:=Xo.1 hy;obtain⟨Uj,Wi⟩:=Xo.1 hx;have h1:=hr (k - 1) (by omega);simp only[show k - 1+1=k by omega,he,Wi]at h1;omega
theorem Hr {α:Type}{p:α→Bool}{l:List α}{x:α}(hx:x∈l)(h:p x=false):l.all p=false:=by
 rw[YX];exact⟨x,hx,by rw[h];simp⟩
theorem mG {v:Vpc}(h:cU v.id=false∨eJ (fun r:Rng=>r.at_.at_) v.ranges=false∨eJ (fun s:Sbn=>s.id) v.subs=false∨v.ranges.all d9=false∨v.subs.all (lZ v)=false):qe v=false:=by
 unfold qe;rcases h with h|h|h|h|h<;>simp[h]
theorem DI {l:List Rng}{k:Nat}{y:Rng}(hy:l[k]? =some y)(h:∀j (h:j+1 < l.length),j+1 < k→l[j].at_.at_ < l[j+1].at_.at_∧l[j].at_.meets l[j+1].at_=false)(hs:∀x,0 < k→l[k - 1]? =some x→x.at_.at_ < y.at_.at_∧x.at_.meets y.at_=false):∀j (h:j+1 < l.length),j+1 < k+1→l[j].at_.at_ < l[j+1].at_.at_∧l[j].at_.meets l[j+1].at_=false:=by
 intro j hj BT;rcases XO (j+1) k with h1|h1
 ·exact h j hj h1
 ·obtain rfl:k=j+1:=by omega
  obtain⟨hl,he⟩:=Xo.1 hy;rw[he];exact hs _ (by omega) (Xj (by omega))
theorem Jn {v:Vpc}(hm:kK v=false)(h1:cU v.id=true)(h2:v.ranges.all d9=true)(h3:∀j (h:j+1 < v.ranges.length),v.ranges[j].at_.at_ < v.ranges[j+1].at_.at_∧v.ranges[j].at_.meets v.ranges[j+1].at_=false)(h4:v.subs.all (lZ v)=true)(h5:∀j (h:j+1 < v.subs.length),v.subs[j].id < v.subs[j+1].id)(h6:∀(i j:Nat) (x y:Sbn),i < j→v.subs[i]? =some x→v.subs[j]? =some y→x.at_.meets y.at_=false):cn v=0:=by
 have r1:eJ (fun r:Rng=>r.at_.at_) v.ranges=true:=(ew v.ranges).2 fun j hj=>(h3 j hj).1;have r2:eJ (fun s:Sbn=>s.id) v.subs=true:=(ew v.subs).2 h5;rw[Mx];refine⟨hm,by unfold qe;rw[h1,r1,r2,h2,h4];rfl,?_,?_⟩
 ·refine MA (fun p hp=>?_) ?_ fun j hj=>?_
  ·obtain⟨r,hr,rfl⟩:=XH.1 hp;exact j5 (XB.1 h2 r hr)
  ·rw[Y5];exact(fQ v.ranges).1 r1
  ·simp only[XF]at hj;simp only[Z4];exact(h3 j hj).2
 ·rw[o0,Y5,XM];intro i j hi hj hij;have:=h6 i j _ _ hij (Xj hi) (Xj hj);rw[←jr]at this ⊢;unfold oS at this ⊢;grind
theorem FQ (v:Vpc)(hl:v.subs.length≤9223372036854775807)(hf:∀s∈v.subs,s.faces.length≤9223372036854775807):ae prog 73 [.agg (aD v)] (.v (.int .i64 (cn v))):=by
 have tY:=Jm v hl hf;clear hl hf;cases hm:kK v with
 |true=>
  rw[hm]at tY;have hr:cn v=2:=by unfold cn;rw[if_pos hm]
  rw[hr];refine pj func73 ntmps73 results73 ?_;exact bo
 |false=>
 obtain⟨h4,h6,h8⟩:=wG hm;rw[hm]at tY;have hid:ae prog 55 [.v (.int .i64 v.id),.v (.int .i64 1),.v (.int .i64 65536)] (.v (.bool (cU v.id))):=pF _ _ _;have di:=Xk (fun h=>MB hm h);have Wk:=Xk (fun a b c d e f=>Jn hm a b c d e f);replace h8:=Xk h8;replace hm:=Xk hm;obtain⟨R,hR⟩:∃R,R=cn v:=⟨_,rfl⟩;rw[←hR];replace hR:=Xk hR;cases b1:cU v.id with
 |false=>
  have hr:R=1:=by rw[hR.out];exact di.out (.inl (mG (.inl b1)))
  rw[b1]at hid;rw[hr];replace hr:=Xk hr;refine pj func73 ntmps73 results73 ?_;exact bo
 |true=>
 rw[b1]at hid;refine pj func73 ntmps73 results73 ?_;refine ay ?_<;>intros;clear tY hid;refine cf af al (fun m e h=>∃(k:Nat),k≤v.ranges.length∧(v.ranges.take k).all d9=true∧(∀j (h:j+1 < v.ranges.length),j+1 < k→v.ranges[j].at_.at_ < v.ranges[j+1].at_.at_∧v.ranges[j].at_.meets v.ranges[j+1].at_=false)∧m=v.ranges.length - k∧e=[(3,.d (.v (.int .i64 k))),(2,.d (.v (.int .i64 0))),(1,.ptr 0 0)]∧
  h=[.box 88 ((aD v).map .d)]) _ _ _ ⟨0,XL _,rfl,fun j h h1=>by omega,rfl,rfl,rfl⟩ (wf) ?_
 rintro m e h ⟨k,hk,bK,Kp,hm0,rfl,rfl⟩ C hC;replace hm0:=Xk hm0;replace bK:=Xk bK;replace Kp:=Xk Kp;by_cases hlt:k < v.ranges.length
 ·have fy:(k:Int) < (v.ranges.length:Int):=by omega
  have dW:=wi k (by omega);have GH:decide ((k:Int)>0)=true→IntKind.i64.wrap ((k:Int) - 1)=((k - 1:Nat):Int):=fun h=>by have:=of_decide_eq_true h;rw[IntKind.wrap_i64];omega
  obtain⟨r,hr⟩:∃r,v.ranges[k]? =some r:=⟨_,Xj hlt⟩;obtain⟨y,hy⟩:∃y,v.ranges[k - 1]? =some y:=⟨_,Xj (by omega)⟩;have Ic:=Xl hr;have hw:ae prog 55 [.v (.int .i64 r.pool),.v (.int .i64 1),.v (.int .i64 65536)] (.v (.bool (cU r.pool))):=pF _ _ _;have SA:ae prog 134 [.agg (aK r.at_)] (.v (.bool (chk r.at_.at_ r.at_.len==0))):=Mq r.at_;have yk:=A7 y.at_ r.at_;rw[jr]at yk;have AA:d9 r=(cU r.pool&&(chk r.at_.at_ r.at_.len==0)):=rfl;have bP:d9 r=false→R=1:=fun h=>by rw[hR.out];exact di.out (.inl (mG (.inr (.inr (.inr (.inl (Hr Ic h)))))))
  have GJ:0 < k∧y.at_.at_≥r.at_.at_→R=1:=fun h=>by rw[hR.out];exact di.out (.inl (mG (.inr (.inl (DH (key:=fun r:Rng=>r.at_.at_) h.1 hy hr h.2)))))
  have Uk:0 < k∧y.at_.meets r.at_=true→R=1:=fun h=>by
   rw[hR.out];exact di.out (.inr (.inl (DG (i:=k - 1) (j:=k) (by omega) (by rw[XA,hy];rfl) (by rw[XA,hr];rfl) h.2)))
  replace bP:=Xk bP;replace GJ:=Xk GJ;replace Uk:=Xk Uk;cases b2:d9 r with
  |false=>
   have h1:R=1:=bP.out b2;rw[b2]at AA;rw[h1];replace h1:=Xk h1;cases b3:cU r.pool with
   |false=>
    rw[b3]at hw;clear AA;exact bo;all_goals exact ap.refl _
   |true=>
    rw[b3,YC]at AA;rw[b3]at hw;have b4:=AA.symm;rw[b4]at SA;clear AA;replace b4:=Xk b4;exact bo;all_goals exact ap.refl _
  |true=>
   rw[b2]at AA;obtain⟨b3,b4⟩:=Bool.and_eq_true_iff.1 AA.symm;rw[b3]at hw;rw[b4]at SA;clear AA;replace b3:=Xk b3;replace b4:=Xk b4;cases b5:y.at_.meets r.at_ with
   |true=>
    rw[b5]at yk;refine Ku ?_ ?_ ?_<;>intros;all_goals first
     |(exact Dy (Uk.out (by clear hw hC SA yk;grind)).symm)
     |(refine hC _ _ _ _ _ ?_ ⟨k+1,hlt,fp hr bK.out b2,DI hr Kp.out (fun x h0 hx=>?_),rfl,rfl,rfl⟩ (wf);(have:=hm0.out;omega);exfalso;clear hw hC SA yk;grind)
   |false=>
    rw[b5]at yk;refine Ku ?_ ?_ ?_<;>intros;all_goals first
     |(exact Dy (GJ.out (by clear hw hC SA yk;grind)).symm)
     |(refine hC _ _ _ _ _ ?_ ⟨k+1,hlt,fp hr bK.out b2,DI hr Kp.out (fun x h0 hx=>?_),rfl,rfl,rfl⟩ (wf);(have:=hm0.out;omega);rw[hy]at hx;rw[←XX.inj hx];exact⟨by clear hw hC SA yk;grind,b5⟩)
 ·obtain rfl:k=v.ranges.length:=by omega
  have bK:=bK.out;rw[Xq]at bK;have Wl:=Xk (fun j hj=>Kp.out j hj (by omega));replace bK:=Xk bK;clear Kp;refine ay ?_<;>intros;refine cf af al (fun m e h=>∃(k:Nat),k≤v.subs.length∧(v.subs.take k).all (lZ v)=true∧(∀j (h:j+1 < v.subs.length),j+1 < k→v.subs[j].id < v.subs[j+1].id)∧(∀(i j:Nat) (x y:Sbn),i < j→j < k→v.subs[i]? =some x→v.subs[j]? =some y→x.at_.meets y.at_=false)∧m=v.subs.length - k∧e=[(5,.d (.v (.int .i64 k))),(2,.d (.v (.int .i64 0))),(1,.ptr 0 0)]∧
   h=[.box 88 ((aD v).map .d)]) _ _ _ ⟨0,XL _,rfl,fun j h h1=>by omega,fun i j x y h1 h2=>by omega,rfl,rfl,rfl⟩ (wf) ?_
  rintro m2 e h ⟨k,mX,GK,BW,Pe,jk,rfl,rfl⟩ C2 kz;replace jk:=Xk jk;replace GK:=Xk GK;replace BW:=Xk BW;replace Pe:=Xk Pe;by_cases tZ:k < v.subs.length
  ·have fy:(k:Int) < (v.subs.length:Int):=by omega
   have dW:=wi k (by omega);have GH:decide ((k:Int)>0)=true→IntKind.i64.wrap ((k:Int) - 1)=((k - 1:Nat):Int):=fun h=>by have:=of_decide_eq_true h;rw[IntKind.wrap_i64];omega
   obtain⟨s,hs⟩:∃s,v.subs[k]? =some s:=⟨_,Xj tZ⟩;obtain⟨y,hy⟩:∃y,v.subs[k - 1]? =some y:=⟨_,Xj (by omega)⟩;have qs:=Xl hs;have hw:ae prog 55 [.v (.int .i64 s.id),.v (.int .i64 1),.v (.int .i64 65536)] (.v (.bool (cU s.id))):=pF _ _ _;have Xd:=Jl v s.at_ (by omega);have Xe:=DE s (h8.out s qs).1 (h8.out s qs).2;have sx:lZ v s=(cU s.id&&(eS v s.at_&&dh s)):=rfl;have bP:lZ v s=false→R=1:=fun h=>by rw[hR.out];exact di.out (.inl (mG (.inr (.inr (.inr (.inr (Hr qs h)))))))
   have GJ:0 < k∧y.id≥s.id→R=1:=fun h=>by rw[hR.out];exact di.out (.inl (mG (.inr (.inr (.inl (DH (key:=fun s:Sbn=>s.id) h.1 hy hs h.2))))))
   have Uk:∀(j:Nat) (x:Sbn),j < k→v.subs[j]? =some x→x.at_.meets s.at_=true→R=1:=fun j x hj hx h=>by
    rw[hR.out];exact di.out (.inr (.inr (DG (i:=j) (j:=k) hj (by rw[XA,hx];rfl) (by rw[XA,hs];rfl) h)))
   replace bP:=Xk bP;replace GJ:=Xk GJ;replace Uk:=Xk Uk;replace sx:=Xk sx;cases b3:cU s.id with
   |false=>
    have h1:R=1:=bP.out (by rw[sx.out,b3];rfl);rw[h1];replace h1:=Xk h1;rw[b3]at hw;exact bo;all_goals exact ap.refl _
   |true=>
    rw[b3]at hw;cases b4:eS v s.at_ with
    |false=>
     have h1:R=1:=bP.out (by rw[sx.out,b3,b4];rfl);rw[h1];replace h1:=Xk h1;rw[b4]at Xd;exact bo;all_goals exact ap.refl _
    |true=>
     rw[b4]at Xd;cases b5:dh s with
     |false=>
      have h1:R=1:=bP.out (by rw[sx.out,b3,b4,b5];rfl);rw[h1];replace h1:=Xk h1;rw[b5]at Xe;exact bo;all_goals exact ap.refl _
     |true=>
      rw[b5]at Xe;have b6:lZ v s=true:=by rw[sx.out,b3,b4,b5];rfl
      replace b6:=Xk b6;refine Ku ?_ ?_ ?_<;>intros;all_goals first
       |(exact Dy (GJ.out (by clear hw hC kz Xd Xe;grind)).symm)
       |skip
      all_goals
       have fU:0 < k→y.id < s.id:=by clear hw hC kz Xd Xe;grind
       replace fU:=Xk fU;refine ul af al k (fun j=>∀(i:Nat) (x:Sbn),i < j→v.subs[i]? =some x→x.at_.meets s.at_=false) (fun j=>[(7,.d (.v (.int .i64 j))),(6,.ptr 1 0),(5,.d (.v (.int .i64 k))),(2,.d (.v (.int .i64 0))),(1,.ptr 0 0)]) (fun _=>[.box 88 ((aD v).map .d),.box 107 ((bI s).map .d)]) (fun i x h=>absurd h (YT _)) (wf) ?_ ?_
       ·intro j BT hJ C3 RQ;have mb:(j:Int) < (k:Int):=by omega
        have rf:=wi j (by omega);obtain⟨x,hx⟩:∃x,v.subs[j]? =some x:=⟨_,Xj (by omega)⟩;have yk:=A7 x.at_ s.at_;rw[jr]at yk;cases b7:x.at_.meets s.at_ with
        |true=>
         have h1:R=1:=Uk.out j x BT hx b7;rw[h1];replace h1:=Xk h1;replace hJ:=Xk hJ;rw[b7]at yk;exact bo;all_goals exact ap.refl _
        |false=>
         have Wh:∀(i:Nat) (x:Sbn),i < j+1→v.subs[i]? =some x→x.at_.meets s.at_=false:=by
          intro i x' hi hx';rcases XO i j with h|h
          ·exact hJ i x' h hx'
          ·obtain rfl:i=j:=by omega
           rw[hx]at hx';rw[←XX.inj hx'];exact b7
         replace Wh:=Xk Wh;replace hJ:=Xk hJ;rw[b7]at yk;refine ay ?_<;>intros;exact RQ _ _ Wh.out (wf)
       ·intro hJ C3;replace hJ:=Xk hJ;refine ay ?_<;>intros;refine kz _ _ _ _ _ ?_ ⟨k+1,tZ,fp hs GK.out b6.out,wI (key:=fun s:Sbn=>s.id) hs BW.out (fun x h0 hx=>by rw[hy]at hx;rw[←XX.inj hx];exact fU.out h0),fun i j x z h1 h2 hx hz=>?_,rfl,rfl,rfl⟩ (wf)
        ·have:=jk.out;omega
        ·rcases XO j k with h|h
         ·exact Pe.out i j x z h1 h hx hz
         ·obtain rfl:j=k:=by omega
          rw[hs]at hz;rw[←XX.inj hz];exact hJ.out i x h1 hx
  ·obtain rfl:k=v.subs.length:=by omega
   have h1:R=0:=by
    have GK:=GK.out;rw[Xq]at GK;rw[hR.out];refine Wk.out b1 bK.out Wl.out GK (fun j hj=>BW.out j hj (by omega)) (fun i j x y hij hx hy=>Pe.out i j x y hij ?_ hx hy);exact(Xo.1 hy).1
   rw[h1];replace h1:=Xk h1;exact bo;all_goals exact ap.refl _
def kO (ents:List (List Int × Int)):Nat→Int→Int→Prop
 |0,x,r=>kl ents [x]=some x∧r=x
 |n+1,x,r=>∃y,kl ents [x]=some y∧y≠x∧kO ents n y r
theorem Ba (ents:List (List Int × Int))(n:Nat)(x r:Int)(h:kO ents n x r):
 MSpec prog 218 [.mref 0,.d (.v (.int .i64 x))] [.mp 1 false ents] (.d (.v (.int .i64 r))) [.mp 1 false ents]:=by
 refine mj func218 ntmps218 results218 ?_;refine ay ?_<;>intros;refine cf af al (fun m e h=>∃(y:Int),kO ents m y r∧e=[(4,.d (.v (.int .i64 0))),(1,.d (.v (.int .i64 y))),(0,.mref 0)]∧h=[.mp 1 false ents]) _ _ _ ⟨x,h,rfl,rfl⟩ (wf) ?_;rintro m e h ⟨y,hy,rfl,rfl⟩ C hC;cases m with
 |zero=>
  obtain⟨h1,rfl⟩:=hy;refine ay ?_<;>intros;all_goals exact aV rfl rfl
 |succ m=>
  obtain⟨z,h1,h2,h3⟩:=hy;have bH:(z !=y)=true:=by simpa using h2
  replace h3:=Xk h3;replace h2:=Xk h2;refine ay ?_<;>intros;exact hC _ _ _ _ _ (Nat.lt_succ_self _) ⟨z,h3.out,rfl,rfl⟩ (wf)
def ip (v w:Vpc):Bool:=v.ranges.any fun r=>w.ranges.any fun q=>r.at_.meets q.at_
theorem Jo (q r:Rng):ae prog 271 [.agg (cq q),.ept (cq r)] (.v (.bool (r.at_.meets q.at_))):=by
 have hm:ae prog 124 [.agg (aK r.at_),.agg (aK q.at_)] (.v (.bool (r.at_.meets q.at_))):=pD _ _;refine pj func271 ntmps271 results271 ?_;exact bo
theorem MC (r:Rng)(w:Vpc)(hw:w.ranges.length≤1000000000):ae prog 270 [.agg (cq r),.ept (aD w)] (.v (.bool (w.ranges.any fun q=>r.at_.meets q.at_))):=by
 have hc:=nq mz (fun q=>r.at_.meets q.at_) w.ranges 271 [.ept (cq r)] hw (fun q _=>Jo q r);refine pj func270 ntmps270 results270 ?_;exact bo
theorem P9 (v w:Vpc)(hv:v.ranges.length≤1000000000)(hw:w.ranges.length≤1000000000):ae prog 219 [.agg (aD v),.agg (aD w)] (.v (.bool (ip v w))):=by
 have hc:=nq mz (fun r=>w.ranges.any fun q=>r.at_.meets q.at_) v.ranges 270 [.ept (aD w)] hv (fun r _=>MC r w hw);refine pj func219 ntmps219 results219 ?_;exact bo
def DJ:List Int→Int
 |[]=>0
 |x::l=>if x=0 then DJ l else x
theorem MD {l:List Int}{k:Nat}{x:Int}(h:l[k]? =some x):DJ (l.drop k)=if x=0 then DJ (l.drop (k+1))else x:=by rw[oX h,DJ]
theorem a0e (l:List Int)(hl:l.length≤1000000000):ae prog 216 [.sl 1 (l.map dF)] (.v (.int .i64 (DJ l))):=by
 obtain⟨R,hR⟩:∃R,R=DJ l:=⟨_,rfl⟩;rw[←hR];replace hR:=Xk hR;refine pj func216 ntmps216 results216 ?_;refine ay ?_<;>intros;refine br af al l (fun k=>DJ l=DJ (l.drop k)) (fun k=>[(8,.d (.v (.int .i64 k))),(7,.d (.v (.int .i64 l.length))),(6,.d (.sl 1 (l.map dF))),(3,.d (.v (.int .i64 0))),(2,.d (.v (.int .i64 0)))]) (fun _=>[]) rfl (wf) ?_ ?_
 ·intro k x hx hk hI C hC;have fy:(k:Int) < (l.length:Int):=by omega
  have dW:=wi k (by omega);rw[MD hx]at hI;by_cases h0:x=0
  ·rw[if_pos h0]at hI;have bH:(x !=0)=false:=by simp[h0]
   replace hI:=Xk hI;replace h0:=Xk h0;refine ay ?_<;>intros;exact hC _ _ hI.out (wf)
  ·rw[if_neg h0]at hI;have bH:(x !=0)=true:=by simpa using h0
   have hr:R=x:=by rw[hR.out,hI]
   rw[hr];replace hr:=Xk hr;replace hI:=Xk hI;replace h0:=Xk h0;exact bo;all_goals exact ap.refl _
 ·intro hI C;rw[Zf]at hI;have hr:R=0:=by rw[hR.out,hI];rfl
  rw[hr];replace hr:=Xk hr;replace hI:=Xk hI;exact bo;all_goals exact ap.refl _
def rW (l m:Lnk):Int:=DJ [d7 l.a m.a,d7 l.b m.b]
theorem Qa (l m:Lnk):ae prog 127 [.agg (cT l),.agg (cT m)] (.v (.int .i64 (rW l m))):=by
 have h1:=mC l.a m.a;have h2:=mC l.b m.b;have h3:=a0e [d7 l.a m.a,d7 l.b m.b] (by simp);simp only[Xm,Xx,dF]at h3;unfold rW;generalize d7 l.a m.a=A at*;generalize d7 l.b m.b=B at*;refine pj func127 ntmps127 results127 ?_;exact bo
def l6 (a b:Int):Lnk:=⟨if b < a then b else a,if a < b then b else a⟩
theorem vr (v:Vpc)(id:Int):ae prog 215 [.agg (aD v),.v (.int .i64 id)] (.v (.int .i64 (d7 v.id id))):=by
 have h1:=mC v.id id;refine pj func215 ntmps215 results215 ?_;exact bo
theorem rX {α:Type}{enc:α→List D}(ef:∀x,(enc x).length=3)(key:α→Int)(l:List α)(t:Int)(g:Nat)(caps:List D)(hl:l.length≤1000000000)(hs:l.Pairwise fun a b=>key a < key b)(hc:∀x∈l,ae prog g (.agg (enc x):: .v (.int .i64 t)::caps) (.v (.int .i64 (d7 (key x) t)))):
 ae prog 214 [.sl 3 (l.map enc),.v (.int .i64 t),.clo g caps] (.tup [.v (.int .i64 (m4 key t l)),.v (.bool (rS key t l))]):=by
 refine pj func214 ntmps214 results214 ?_;refine ay ?_<;>intros;refine cf af al (fun m e h=>∃i j:Nat,i≤j∧j≤l.length∧(∀q (hq:q < l.length),q < i→key l[q] < t)∧(∀q (hq:q < l.length),j≤q→t≤key l[q])∧m=j - i∧
  e=[(10,.d (.v (.int .i64 j))),(9,.d (.v (.int .i64 i))),(8,.d (.v (.int .i64 l.length))),(7,.d (.v (.bool false))),(6,.d (.v (.int .i64 0))),(2,.d (.clo g caps)),(1,.d (.v (.int .i64 t))),(0,.d (.sl 3 (l.map enc)))]∧h=[]) _ _ _ ⟨0,l.length,XL _,XC _,fun q hq h=>absurd h (YT _),fun q hq h=>by omega,rfl,rfl,rfl⟩ ?_ ?_
 ·exact wf (x:=[]) (hh:=rfl) (he:=⟨rfl,rfl,rfl,rfl,rfl,rfl,rfl,rfl,trivial⟩)
 ·rintro m e h ⟨i,j,hij,hj,jV,lX,rfl,rfl,rfl⟩ CL m5;by_cases hlt:i < j
  ·obtain⟨q,hq⟩:∃q,q=(i+j) / 2:=⟨_,rfl⟩;have AB:q < l.length:=by omega
   obtain⟨x,hx⟩:∃x,l[q]? =some x:=⟨_,Xj AB⟩;have od:l[q]=x:=by rw[Xj AB]at hx;exact XX.inj hx
   have ec:(i:Int) < (j:Int):=by omega
   have bV:IntKind.i64.wrap ((i:Int)+(j:Int))=((i+j:Nat):Int):=by rw[IntKind.wrap_i64];omega
   have cI:IntKind.u64.wrap ((i+j:Nat):Int)=((i+j:Nat):Int):=by rw[ww];omega
   have Kn:(((i+j:Nat):Int)).fdiv (2 ^ min 1 64)=(q:Int):=by
    rw[hq,show (min 1 64:Nat)=1 from rfl,_o,Int.pow_zero,Int.one_mul,ZP _ (by omega)];omega
   have pP:IntKind.i64.wrap (q:Int)=(q:Int):=by rw[IntKind.wrap_i64];omega
   have OJ:=wi q (by omega);have aT:=ef x;have gx:(enc x).take 3=enc x:=XI (by omega);have ji:=hc x (Xl hx);have Ki:=rR (key x) t;have hqd:i≤q∧q < j:=by omega
   replace hq:=Xk hq;by_cases hk:key x < t
   ·have fy:decide (key x < t)=true:=by simpa using hk
    refine ay ?_<;>intros;refine m5 _ _ _ _ _ ?_ ⟨q+1,j,by omega,hj,?_,lX,rfl,rfl,rfl⟩ (wf (x:=[]) (hh:=rfl) (he:=⟨rfl,rfl,rfl,rfl,rfl,rfl,rfl,rfl,trivial⟩))
    ·omega
    ·intro q' hq' Ke;rcases XO q' q with h1|h1
     ·have:=XM.1 hs q' q hq' AB h1;rw[od]at this;omega
     ·obtain rfl:q'=q:=by omega
      rw[od];exact hk
   ·have fy:decide (key x < t)=false:=by simpa using hk
    refine ay ?_<;>intros;refine m5 _ _ _ _ _ ?_ ⟨i,q,by omega,by omega,jV,?_,rfl,rfl,rfl⟩ (wf (x:=[]) (hh:=rfl) (he:=⟨rfl,rfl,rfl,rfl,rfl,rfl,rfl,rfl,trivial⟩))
    ·omega
    ·intro q' hq' Ke;rcases XO q q' with h1|h1
     ·have:=XM.1 hs q q' AB hq' h1;rw[od]at this;omega
     ·obtain rfl:q'=q:=by omega
      rw[od];omega
  ·obtain rfl:i=j:=by omega
   have jR:=tt hj jV lX;have sG:rS key t l=match l[i]? with|some x=>key x==t|none=>false:=by unfold rS;rw[jR];all_goals(cases l[i]? <;>rfl)
   replace jR:=Xk jR;replace sG:=Xk sG;by_cases fl:i < l.length
   ·obtain⟨x,hx⟩:∃x,l[i]? =some x:=⟨_,Xj fl⟩;have OK:decide ((i:Int) < (l.length:Int))=true:=by simpa using fl
    have aT:=ef x;have gx:(enc x).take 3=enc x:=XI (by omega);have ji:=hc x (Xl hx);have hcz:=tr (key x) t;refine ay ?_<;>intros;all_goals rw[sG.out,hx,jR.out]
    all_goals exact ap.refl _
   ·have OK:decide ((i:Int) < (l.length:Int))=false:=by simpa using fl
    refine ay ?_<;>intros;all_goals rw[sG.out,jR.out,XN (by omega)]
    all_goals exact ap.refl _
def eO (n:Net)(id:Int):Option Vpc:=n.vpcs.find? fun v=>v.id==id
@[go_sem] def Te (o:Option Vpc):D:=match o with|some v=> .tup [.ept (aD v),.v (.bool true)]|none=> .tup [.v (.pointer none),.v (.bool false)]
theorem ME {l:List Vpc}{id:Int}(hs:l.Pairwise fun a b=>a.id < b.id){v:Vpc}(hv:l[m4 (fun v:Vpc=>v.id) id l]? =some v)(he:v.id=id):l.find? (fun v=>v.id==id)=some v:=by
 rw[Zg];obtain⟨hlt,hg⟩:=Xo.1 hv;refine⟨by simpa using he,_,hlt,hg,fun j hj=>?_⟩;have:=XM.1 hs j _ (by omega) hlt hj;rw[hg]at this;simp;omega
theorem Qb {l:List Vpc}{id:Int}(hs:l.Pairwise fun a b=>a.id < b.id)(h:rS (fun v:Vpc=>v.id) id l=false):l.find? (fun v=>v.id==id)=none:=by
 rw[YF];intro v hv he;have he2:v.id=id:=by simpa using he
 obtain⟨j,hj,rfl⟩:=Yf.1 hv;have h1:m4 (fun v:Vpc=>v.id) id l=j:=tt (by omega) (fun q hq hqj=>by
  have:=XM.1 hs q j hq hj hqj;show l[q].id < id;omega) (fun q hq hjq=>by
  show id≤l[q].id;rcases XO j q with h|h
  ·have:=XM.1 hs j q hj hq h;omega
  ·obtain rfl:q=j:=by omega
   omega)
 unfold rS at h;rw[h1,Xj hj]at h;simp[he2]at h
@[go_sem] def Tf (o:Option Vpc):PV:= .d (Te o)
theorem DK (n:Net)(id:Int)(hl:n.vpcs.length≤1000000000)(hs:n.vpcs.Pairwise fun a b=>a.id < b.id):MSpec prog 126 [.ptr 0 0,.d (.v (.int .i64 id))] [.box 34 ((eI n).map .d)] (Tf (eO n id)) [.box 34 ((eI n).map .d)]:=by
 have hb:=rX ij (fun v:Vpc=>v.id) n.vpcs id 215 [] hl hs (fun v _=>vr v id);unfold eO;cases hB:rS (fun v:Vpc=>v.id) id n.vpcs with
 |false=>
  rw[Qb hs hB];rw[hB]at hb;clear hs;refine mj func126 ntmps126 results126 ?_;refine ay ?_<;>intros;all_goals exact aV rfl rfl
 |true=>
  obtain⟨v,hv,he⟩:∃v,n.vpcs[m4 (fun v:Vpc=>v.id) id n.vpcs]? =some v∧v.id=id:=by
   unfold rS at hB;cases hq:n.vpcs[m4 (fun v:Vpc=>v.id) id n.vpcs]? with
   |none=>rw[hq]at hB;cases hB
   |some v=>rw[hq]at hB;exact⟨v,rfl,by simpa using hB⟩
  rw[ME hs hv he];rw[hB]at hb;clear hs;replace he:=Xk he;have hlt:=(Xo.1 hv).1;generalize m4 (fun v:Vpc=>v.id) id n.vpcs=k at*;refine mj func126 ntmps126 results126 ?_;refine ay ?_<;>intros;all_goals exact aV rfl rfl
theorem Hs {ents:List (List Int × Int)}{a b r:Int}(hb:kl ents [b]=some b)(hr:r≠b):∀{n:Nat}{x:Int},kO ents n x r→kO (mo ents [b] a) n x r
 |0,x,h=>by
  obtain⟨h1,rfl⟩:=h;exact⟨by rw[fZ,if_neg (by simpa using fun e=>hr e.symm)];exact h1,rfl⟩
 |n+1,x,h=>by
  obtain⟨y,h1,h2,h3⟩:=h;have hx:b≠x:=fun e=>by subst e;rw[hb]at h1;exact h2 (XX.inj h1).symm
  exact⟨y,by rw[fZ,if_neg (by simpa using hx)];exact h1,h2,Hs hb hr h3⟩
theorem DL {ents:List (List Int × Int)}{a b:Int}(ha:kl ents [a]=some a)(hb:kl ents [b]=some b)(kh:a≠b):∀{n:Nat}{x:Int},kO ents n x b→kO (mo ents [b] a) (n+1) x a
 |0,x,h=>by
  obtain⟨h1,rfl⟩:=h;exact⟨a,by rw[fZ,if_pos rfl],kh,by rw[fZ,if_neg (by simpa using fun e=>kh e.symm)];exact ha,rfl⟩
 |n+1,x,h=>by
  obtain⟨y,h1,h2,h3⟩:=h;have hx:b≠x:=fun e=>by subst e;rw[hb]at h1;exact h2 (XX.inj h1).symm
  exact⟨y,by rw[fZ,if_neg (by simpa using hx)];exact h1,h2,DL ha hb kh h3⟩
theorem tC {ents:List (List Int × Int)}{b r:Int}(hb:kl ents [b]=some b):∀{n:Nat}{x:Int},kO ents n x r→kO (mo ents [b] b) n x r
 |0,x,h=>by
  obtain⟨h1,rfl⟩:=h;refine⟨?_,rfl⟩;rw[fZ];split
  ·rename_i e;simp at e;rw[e]
  ·exact h1
 |n+1,x,h=>by
  obtain⟨y,h1,h2,h3⟩:=h;refine⟨y,?_,h2,tC hb h3⟩;rw[fZ,if_neg]
  ·exact h1
  ·intro e;simp at e;subst e;rw[hb]at h1;exact h2 (XX.inj h1).symm
def Ht (ids:List Int)(ents:List (List Int × Int))(F:Int→Int):Prop:=∀x∈ids,(∃n,kO ents n x (F x))∧F x∈ids∧kl ents [F x]=some (F x)
def js (F:Int→Int)(l:Lnk):Int→Int:=fun x=>if F x=F l.b then F l.a else F x
def qf (s:List (List Int × Int) × (Int→Int))(l:Lnk):List (List Int × Int) × (Int→Int):=(mo s.1 [s.2 l.b] (s.2 l.a),js s.2 l)
theorem MF {ids:List Int}{ents:List (List Int × Int)}{F:Int→Int}{l:Lnk}(h:Ht ids ents F)(ha:l.a∈ids)(hb:l.b∈ids):Ht ids (mo ents [F l.b] (F l.a)) (js F l):=by
 obtain⟨-,fa,ra⟩:=h l.a ha;obtain⟨-,fb,rb⟩:=h l.b hb;intro x hx;obtain⟨⟨n,hn⟩,fx,rx⟩:=h x hx;unfold js;by_cases kh:F l.a=F l.b
 ·rw[kh];by_cases x7:F x=F l.b
  ·rw[if_pos x7,←x7];exact⟨⟨n,tC rx hn⟩,fx,by rw[fZ,if_pos rfl]⟩
  ·rw[if_neg x7];exact⟨⟨n,tC rb hn⟩,fx,by rw[fZ,if_neg (by simpa using fun e=>x7 e.symm)];exact rx⟩
 ·by_cases x7:F x=F l.b
  ·rw[if_pos x7];rw[x7]at hn;exact⟨⟨n+1,DL ra rb kh hn⟩,fa,by rw[fZ,if_neg (by simpa using fun e=>kh e.symm)];exact ra⟩
  ·rw[if_neg x7];exact⟨⟨n,Hs rb x7 hn⟩,fx,by rw[fZ,if_neg (by simpa using fun e=>x7 e.symm)];exact rx⟩
def mH (vs:List Vpc):List (List Int × Int):=vs.foldl (fun e v=>mo e [v.id] v.id) []
theorem kP {α β:Type}{f:β→α→β}{b:β}{l:List α}{k:Nat}{x:α}(h:l[k]? =some x):(l.take (k+1)).foldl f b=f ((l.take k).foldl f b) x:=by rw[ah h,Zr];rfl
theorem MG (l:List Vpc)(e:List (List Int × Int))(x:Int):kl (l.foldl (fun e v=>mo e [v.id] v.id) e) [x]=if x∈l.map (·.id)then some x else kl e [x]:=by
 induction l generalizing e with
 |nil=>simp
 |cons v l ih=>
  rw[YG,ih,fZ];by_cases h1:x∈l.map (·.id)
  ·rw[if_pos h1,if_pos (by simp only[Xm,XY];exact .inr h1)]
  ·rw[if_neg h1];by_cases h2:v.id=x
   ·subst h2;simp
   ·rw[if_neg (by simpa using h2),if_neg];simp only[Xm,XY,not_or];exact⟨fun e=>h2 e.symm,h1⟩
theorem Vp (vs:List Vpc):Ht (vs.map (·.id)) (mH vs) (fun x=>x):=fun x hx=>by
 have:=MG vs [] x;rw[if_pos hx]at this;exact⟨⟨0,this,rfl⟩,hx,this⟩
def Vq (n:Net):List (List Int × Int) × (Int→Int):=n.links.foldl qf (mH n.vpcs,fun x=>x)
theorem Sb {n:Net}(hl:∀l∈n.links,l.a∈n.vpcs.map (·.id)∧l.b∈n.vpcs.map (·.id))(k:Nat):Ht (n.vpcs.map (·.id)) ((n.links.take k).foldl qf (mH n.vpcs,fun x=>x)).1 ((n.links.take k).foldl qf (mH n.vpcs,fun x=>x)).2:=by
 induction k with
 |zero=>exact Vp n.vpcs
 |succ k ih=>
  by_cases hk:k < n.links.length
  ·have hx:=Xj hk;rw[kP hx];have:=hl _ (Ym hk);exact MF ih this.1 this.2
  ·rw[XI (by omega)]at ih ⊢;exact ih
def Kv (pid:Int)(m:List (List Int × Int))(l:Lse):List (List Int × Int):=if l.kind=1 then mo m [l.at_.at_,l.at_.len,pid] l.owner else m
def MH (m:List (List Int × Int))(p:Pol):List (List Int × Int):=p.leases.foldl (Kv p.id) m
def vt (b:Bok):List (List Int × Int):=b.pools.foldl MH []
theorem Hu (b:Bok)(h1:b.pools.length≤1000000000)(h2:∀p∈b.pools,p.leases.length≤1000000000):
 MSpec prog 60 [.d (.agg (bN b))] [] (.mref 1) [.gone,.mp 3 true (vt b)]:=by
 replace h2:=Xk h2;refine mj func60 ntmps60 results60 ?_;refine ay ?_;refine br af al b.pools (fun _=>True) (fun k=>[(12,.d (.v (.int .i64 k))),(11,.d (.v (.int .i64 b.pools.length))),(10,.d (.sl 9 (b.pools.map am))),(3,.mref 1)])
  (fun k=>[.gone,.mp 3 true ((b.pools.take k).foldl MH [])]) trivial ?_ ?_ ?_
 ·exact(aU 0 (by simp)).trans wf
 ·intro k p hp hk _ C hC;have fy:(k:Int) < (b.pools.length:Int):=by omega
  have dW:=wi k (by omega);have oa:=h2.out p (Xl hp);have hs:(b.pools.take (k+1)).foldl MH []=p.leases.foldl (Kv p.id) ((b.pools.take k).foldl MH []):=by rw[kP hp];rfl
  replace hs:=Xk hs;generalize (b.pools.take k).foldl MH []=M at*;refine ay ?_;refine br af al p.leases (fun _=>True) (fun j=>[(19,.d (.v (.int .i64 j))),(18,.d (.v (.int .i64 p.leases.length))),(17,.d (.sl 5 (p.leases.map aQ))),(5,.ptr 2 0),(12,.d (.v (.int .i64 k))),(11,.d (.v (.int .i64 b.pools.length))),(10,.d (.sl 9 (b.pools.map am))),(3,.mref 1)])
   (fun j=>[.gone,.mp 3 true ((p.leases.take j).foldl (Kv p.id) M),.box 83 ((am p).map .d)]) trivial wf ?_ ?_
  ·intro j l hl hj _ D hD;have mb:(j:Int) < (p.leases.length:Int):=by omega
   have rf:=wi j (by omega);have ht:(p.leases.take (j+1)).foldl (Kv p.id) M=if l.kind=1 then mo ((p.leases.take j).foldl (Kv p.id) M) [l.at_.at_,l.at_.len,p.id] l.owner else (p.leases.take j).foldl (Kv p.id) M:=by rw[kP hl];rfl
   generalize (p.leases.take j).foldl (Kv p.id) M=Mj at*;by_cases qr:l.kind=1
   ·rw[if_pos qr]at ht;have e1:(l.kind==1)=true:=by simpa using qr
    replace ht:=Xk ht;replace qr:=Xk qr;refine ay ?_;exact hD _ _ trivial (wf (hh:=by rw[ht.out];rfl))
   ·rw[if_neg qr]at ht;have e1:(l.kind==1)=false:=by simpa using qr
    replace ht:=Xk ht;replace qr:=Xk qr;refine ay ?_;exact hD _ _ trivial (wf (hh:=by rw[ht.out];rfl))
  ·intro _ D;rw[Xq];refine ay ?_;exact hC _ _ trivial (wf (hh:=by rw[hs.out];rfl))
 ·intro _ C;rw[Xq];refine ay ?_;exact aV rfl rfl
def Bb (E:List (List Int × Int))(id:Int)(r:Rng):Bool:=(kl E [r.at_.at_,r.at_.len,r.pool]).getD 0==id
def o3 (vs:List Vpc):Nat:=(vs.map (·.ranges.length)).sum
def gM (vs:List Vpc)(o:Int):Bool:=vs.any (·.id==o)
def kQ (E:List (List Int × Int))(vs:List Vpc):Bool:=vs.all fun v=>v.ranges.all (Bb E v.id)
def kR (E:List (List Int × Int))(p:Int→Bool)(i:Nat):Bool:=match E[i]? with|some kv=>p kv.2|none=>false
theorem FR (E:List (List Int × Int))(p:Int→Bool):(X3 E.length).countP (kR E p)=E.countP fun kv=>p kv.2:=by
 induction E with
 |nil=>rfl
 |cons a l ih=>
  rw[XD,List.range_succ_eq_map,List.countP_cons,List.countP_map,List.countP_cons];have:(kR (a::l) p∘Nat.succ)=kR l p:=by funext i;rfl
  rw[this,ih];rfl
theorem Jp {n:Nat}{seen:List Nat}(hn:seen.Nodup)(hl:∀i∈seen,i < n)(ha:∀i,i < n→i∈seen):seen.Perm (X3 n):=
 (List.perm_ext_iff_of_nodup hn List.nodup_range).2 fun i=>by
  rw[YP];exact⟨hl i,ha i⟩
theorem MI {E:List (List Int × Int)}{p:Int→Bool}{seen:List Nat}(hn:seen.Nodup)(hl:∀i∈seen,i < E.length)(ha:∀i,i < E.length→i∈seen):seen.countP (kR E p)=E.countP fun kv=>p kv.2:=by
 rw[←FR];exact List.Perm.countP_eq _ (Jp hn hl ha)
def DM (n:Nat)(seen:List Nat):Nat:=((X3 n).filter fun i=>!seen.contains i).length
theorem Hv {n i:Nat}{seen:List Nat}(hi:i < n)(hs:i∉seen):DM n (seen++[i]) < DM n seen:=by
 unfold DM;have xS:((X3 n).filter fun j=>!(seen++[i]).contains j)=((X3 n).filter fun j=>!seen.contains j).filter (fun j=>!(j==i)):=by
  rw[Zj];refine B' fun j _=>?_;by_cases h:j=i
  ·subst h;simp
  ·by_cases h2:j∈seen<;>simp[h,h2]
 rw[xS];refine List.length_filter_lt_length_iff_exists.2 ⟨i,?_,by simp⟩;rw[Zt];exact⟨YP.2 hi,by simpa using hs⟩
theorem Jq {vs:List Vpc}{k:Nat}{v:Vpc}(h:vs[k]? =some v):o3 (vs.take (k+1))=o3 (vs.take k)+v.ranges.length:=by
 unfold o3;rw[ah h,Xz,List.sum_append];simp
theorem Qc {vs:List Vpc}{n:Nat}(h:∀v∈vs,v.ranges.length≤n):o3 vs≤vs.length*n:=by
 induction vs with
 |nil=>simp[o3]
 |cons v vs ih=>
  have h1:=h v (by simp);have h2:=ih fun x hx=>h x (by simp[hx]);simp only[o3,Xm,List.sum_cons,XD]at*;rw[Zu];omega
theorem Qd (m:List (List Int × Int))(k:List Int)(v:Int):(mo m k v).length≤m.length+1:=by
 induction m with
 |nil=>simp[mo]
 |cons a m ih=>
  unfold mo;split
  ·simp
  ·simp only[XD];omega
theorem Qe (l:List Lse)(pid:Int):∀(m:List (List Int × Int)),(l.foldl (Kv pid) m).length≤m.length+l.length:=by
 induction l with
 |nil=>intro m;simp
 |cons a l ih=>
  intro m;rw[YG];have h1:=ih (Kv pid m a);have h2:(Kv pid m a).length≤m.length+1:=by
   unfold Kv;split
   ·exact Qd _ _ _
   ·omega
  simp only[XD];omega
theorem Qf {b:Bok}{n:Nat}(h:∀p∈b.pools,p.leases.length≤n):(vt b).length≤b.pools.length*n:=by
 unfold vt;have key:∀(l:List Pol) (m:List (List Int × Int)),(∀p∈l,p.leases.length≤n)→(l.foldl MH m).length≤m.length+l.length*n:=by
  intro l;induction l with
  |nil=>intro m _;simp
  |cons a l ih=>
   intro m hl;rw[YG];have h1:=ih (MH m a) fun p hp=>hl p (by simp[hp]);have h2:=Qe a.leases a.id m;have h3:=hl a (by simp);simp only[XD];rw[Zu];unfold MH at*;omega
 have:=key b.pools [] h;simpa using this
structure Lm (ls:List Nat)(P:Program)(g:Nat)(args:List PV)(h0:List Chunk)(r:PV)(h1:List Chunk):Prop where
 n:Ln ls P g args h0 r h1
structure Lo (ls:List Nat)(P:Program)(g:Nat)(args:List PV)(h0:List Chunk)(r:PV)(h1:List Chunk):Prop where
 n:Ln ls P g args h0 r h1
theorem rY {Q1 Q2 Q3 Q4 Q5 Q6 Q7 Q8 P:Prop}(q1:Q1)(q2:Q2)(q3:Q3)(q4:Q4)(q5:Q5)(q6:Q6)(q7:Q7)(q8:Q8)(h:Hd Q1→Hd Q2→Hd Q3→Hd Q4→Hd Q5→Hd Q6→Hd Q7→Hd Q8→P:=by
 intro q1 q2 q3 q4 q5 q6 q7 q8;first|((repeat' (first|(with_reducible refine And.intro ?_ ?_)|(with_reducible refine dO (fun cE=>?_) (fun cE=>?_))|(with_reducible refine aN (fun cE=>?_) (fun cE=>?_))|(with_reducible refine cg (by kernel_rfl))|simp -dsimp only[go_sem,seval, *,undef,Xq,Yr,bne_self_eq_false,beq_self_eq_true,XJ,YL,YZ]|((with_reducible refine ci ?_);simp -dsimp only[go_sem,seval, *,undef,Xq,Yr,bne_self_eq_false,beq_self_eq_true,XJ,YL,YZ];first|refine aP (by assumption) (by first|exact .inl rfl|exact .inr rfl) ?_|(refine aO (by assumption) ?_ ?_ ?_;(solve|(repeat(first|exact ap.refl _|exact ap.nil _|(refine ap.tup ?_)|(refine ap.agg ?_ rfl)|exact trivial|(refine And.intro ?_ ?_))));(solve|exact .inl rfl|exact .inr rfl)))|(refine um (by assumption) ?_ ?_ ?_ ?_ ?_ ?_;(solve|rfl|simp only[go_sem,seval]);(solve|rfl);(solve|decide);(solve|simp);(solve|simp only[go_sem,seval,aZ]))|(refine um (Lm.n (by assumption)) ?_ ?_ ?_ ?_ ?_ ?_;(solve|rfl|simp only[go_sem,seval]);(solve|rfl);(solve|decide);(solve|simp);(solve|simp only[go_sem,seval,aZ]))|(refine um (Lo.n (by assumption)) ?_ ?_ ?_ ?_ ?_ ?_;(solve|rfl|simp only[go_sem,seval]);(solve|rfl);(solve|decide);(solve|simp);(solve|simp only[go_sem,seval,aZ]))|(refine tq (by assumption) ?_ ?_ ?_ ?_ ?_ ?_;(solve|rfl|simp only[go_sem,seval]);(solve|rfl);(solve|decide);(solve|simp);(solve|simp only[go_sem,seval,aZ]))|omega|exact decide_eq_true (by omega)|exact ap.refl _));all_goals((repeat revert cE);first|(with_reducible exact q1.out)|(with_reducible exact q2.out)|(with_reducible exact q3.out)|(with_reducible exact q4.out)|(with_reducible exact q5.out)|(with_reducible exact q6.out)|(with_reducible exact q7.out)|(with_reducible exact q8.out)))|fail)
 (e1:Or1 Q1:=by first|(with_reducible exact(Or1.mk:Or1 True))|exact Or1.mk) (e2:Or1 Q2:=by first|(with_reducible exact(Or1.mk:Or1 True))|exact Or1.mk) (e3:Or1 Q3:=by first|(with_reducible exact(Or1.mk:Or1 True))|exact Or1.mk) (e4:Or1 Q4:=by first|(with_reducible exact(Or1.mk:Or1 True))|exact Or1.mk) (e5:Or1 Q5:=by first|(with_reducible exact(Or1.mk:Or1 True))|exact Or1.mk) (e6:Or1 Q6:=by first|(with_reducible exact(Or1.mk:Or1 True))|exact Or1.mk) (e7:Or1 Q7:=by first|(with_reducible exact(Or1.mk:Or1 True))|exact Or1.mk) (e8:Or1 Q8:=by first|(with_reducible exact(Or1.mk:Or1 True))|exact Or1.mk):P:=h ⟨q1⟩ ⟨q2⟩ ⟨q3⟩ ⟨q4⟩ ⟨q5⟩ ⟨q6⟩ ⟨q7⟩ ⟨q8⟩
theorem a0f (n:Net)(h1:n.vpcs.length≤1000000000)(h2:n.links.length≤1000000000)(hl:∀l∈n.links,l.a∈n.vpcs.map (·.id)∧l.b∈n.vpcs.map (·.id)):
 MSpec prog 217 [.d (.ept (eI n))] [] (.mref 0) [.mp 1 false (Vq n).1]:=by
 have hg:=Xk (Sb hl);replace hl:=Xk hl;refine mj func217 ntmps217 results217 ?_;refine ay ?_<;>intros;refine br af al n.vpcs (fun _=>True) (fun k=>[(14,.d (.v (.int .i64 k))),(13,.d (.v (.int .i64 n.vpcs.length))),(12,.d (.sl 3 (n.vpcs.map aD))),(3,.mref 0),(0,.d (.ept (eI n)))]) (fun k=>[.mp 1 false (mH (n.vpcs.take k))]) trivial (wf) ?_ ?_
 ·intro k v hv hk _ C hC;have fy:(k:Int) < (n.vpcs.length:Int):=by omega
  have dW:=wi k (by omega);have hs:mH (n.vpcs.take (k+1))=mo (mH (n.vpcs.take k)) [v.id] v.id:=kP hv;replace hs:=Xk hs;refine ay ?_<;>intros;exact hC _ _ trivial (wf (hh:=(by rw[hs.out];rfl)))
 ·intro _ C;rw[Xq];refine ay ?_<;>intros;refine br af al n.links (fun _=>True) (fun k=>[(29,.d (.v (.int .i64 k))),(28,.d (.v (.int .i64 n.links.length))),(27,.d (.sl 2 (n.links.map cT))),(3,.mref 0)]) (fun k=>[.mp 1 false ((n.links.take k).foldl qf (mH n.vpcs,fun x=>x)).1]) trivial (wf) ?_ ?_
  ·intro k l pS hk _ C hC;have fy:(k:Int) < (n.links.length:Int):=by omega
   have dW:=wi k (by omega);have hs:((n.links.take (k+1)).foldl qf (mH n.vpcs,fun x=>x)).1=mo ((n.links.take k).foldl qf (mH n.vpcs,fun x=>x)).1 [((n.links.take k).foldl qf (mH n.vpcs,fun x=>x)).2 l.b] (((n.links.take k).foldl qf (mH n.vpcs,fun x=>x)).2 l.a):=by rw[kP pS];rfl
   have hm:=hl.out l (Xl pS);obtain⟨⟨na,ha⟩,-,-⟩:=hg.out k l.a hm.1;obtain⟨⟨nb,hb⟩,-,-⟩:=hg.out k l.b hm.2;generalize (n.links.take k).foldl qf (mH n.vpcs,fun x=>x)=S at*;have Wm:=Ba S.1 na l.a (S.2 l.a) ha;have Wn:=Ba S.1 nb l.b (S.2 l.b) hb;clear ha hb hm;replace hs:=Xk hs;have z1z:=Ln.mk (ls:=[0]) (Wn);have z2z:=Lm.mk (Ln.mk (ls:=[0]) (Wm));refine rY ?_ ?_ ?_ ?_ ?_ ?_ ?_ ?_<;>first|(with_reducible exact True.intro)|intros
   exact hC _ _ trivial (wf (hh:=(by rw[hs.out];rfl)))
  ·intro _ C;rw[Xq];refine ay ?_<;>intros;all_goals exact aV rfl rfl
def ck (n:Net):Int→Int:=(Vq n).2
def kS (n:Net)(v w:Vpc):Bool:=(ck n v.id==ck n w.id)&&ip v w
def eK (n:Net):Bool:=(X3 n.vpcs.length).all fun k=>match n.vpcs[k]? with|some v=>(n.vpcs.take k).all fun w=>!kS n v w|none=>true
theorem tD {n:Net}{i j:Nat}{v w:Vpc}(hij:j < i)(hv:n.vpcs[i]? =some v)(hw:n.vpcs[j]? =some w)(h:kS n v w=true):eK n=false:=by
 unfold eK;rw[YX];refine⟨i,YP.2 (Xo.1 hv).1,?_⟩;rw[hv];simp only[Bool.not_eq_true,YX];exact⟨w,Xl (i:=j) (by rw[XQ hij];exact hw),by rw[h];simp⟩
theorem wJ {n:Net}(h:∀(i:Nat) (v w:Vpc),n.vpcs[i]? =some v→w∈n.vpcs.take i→kS n v w=false):eK n=true:=by
 unfold eK;rw[XB];intro i hi;have hl:=YP.1 hi;rw[Xj hl];simp only[XB];intro w hw;rw[h i _ w (Xj hl) hw];rfl
theorem Bc (n:Net)(h1:n.vpcs.length≤1000000000)(h2:n.links.length≤1000000000)(hr:∀v∈n.vpcs,v.ranges.length≤1000000000)(hl:∀l∈n.links,l.a∈n.vpcs.map (·.id)∧l.b∈n.vpcs.map (·.id)):
 ae prog 128 [.ept (eI n)] (.v (.bool (eK n))):=by
 have hof:=a0f n h1 h2 hl;have hg:∀x∈n.vpcs.map (·.id),∃k,kO (Vq n).1 k x (ck n x):=fun x hx=>by
  have:=(Sb hl n.links.length x (by exact hx)).1;rwa [Xq]at this
 replace hg:=Xk hg;replace hr:=Xk hr;clear hl;obtain⟨R,hR⟩:∃R,R=eK n:=⟨_,rfl⟩;rw[←hR];replace hR:=Xk hR;generalize (Vq n).1=E at*;refine pj func128 ntmps128 results128 ?_;have z1z:=Ln.mk (ls:=[]) (hof);refine ay ?_<;>intros;clear hof;refine br af al n.vpcs (fun k=>∀(i:Nat) (v w:Vpc),i < k→n.vpcs[i]? =some v→w∈n.vpcs.take i→kS n v w=false) (fun k=>[(15,.d (.v (.int .i64 k))),(14,.d (.v (.int .i64 n.vpcs.length))),(13,.d (.sl 3 (n.vpcs.map aD))),(3,.mref 0),(2,.d (.v (.bool false))),(0,.d (.ept (eI n)))]) (fun _=>[.mp 1 false E]) (fun i v w h=>absurd h (YT _)) (wf) ?_ ?_
 ·intro k v hv hk hI C hC;have fy:(k:Int) < (n.vpcs.length:Int):=by omega
  have dW:=wi k (by omega);have Kl:k≤n.vpcs.length:=by omega
  have vf:=Xl hv;have Ay:=hr.out v vf;obtain⟨nv,hhv⟩:=hg.out v.id (XH.2 ⟨v,vf,rfl⟩);have hmv:=Ba E nv v.id (ck n v.id) hhv;have hlt:(n.vpcs.take k).length=k:=by rw[Xp];omega
  have pY:((n.vpcs.map aD).take k).length=k:=by rw[←Zz,XF];exact hlt
  clear hhv;replace hI:=Xk hI;refine ay ?_<;>intros;refine br af al (n.vpcs.take k) (fun j=>∀w∈(n.vpcs.take k).take j,kS n v w=false) (fun j=>[(27,.d (.v (.int .i64 j))),(26,.d (.v (.int .i64 k))),(25,.d (.sl 3 ((n.vpcs.map aD).take k))),(5,.ptr 1 0),(15,.d (.v (.int .i64 k))),(14,.d (.v (.int .i64 n.vpcs.length))),(13,.d (.sl 3 (n.vpcs.map aD))),(3,.mref 0),(2,.d (.v (.bool false))),(0,.d (.ept (eI n)))]) (fun _=>[.mp 1 false E,.box 88 ((aD v).map .d)]) (fun w hw=>by simp at hw) (wf) ?_ ?_
  ·intro j w hw hj hJ C2 kz;have mb:(j:Int) < (k:Int):=by omega
   have pP:((n.vpcs.map aD).take k)[j]? =some (aD w):=by rw[←Zz,XA,hw];rfl
   have rf:=wi j (by omega);have BT:j < k:=by omega
   have cI:n.vpcs[j]? =some w:=by rw[XQ BT]at hw;exact hw
   have GH:=Xl cI;have hrw:=hr.out w GH;obtain⟨nw,hhw⟩:=hg.out w.id (XH.2 ⟨w,GH,rfl⟩);have hmw:=Ba E nw w.id (ck n w.id) hhw;have gA:=P9 v w Ay hrw;have bP:kS n v w=true→R=false:=fun h=>by rw[hR.out];exact tD BT hv cI h
   have Ie:kS n v w=false→∀u∈(n.vpcs.take k).take (j+1),kS n v u=false:=fun h u hu=>by
    rw[ah hw]at hu;rcases X4.1 hu with hu|hu
    ·exact hJ u hu
    ·rw[X7.1 hu];exact h
   have gB:kS n v w=((ck n v.id==ck n w.id)&&ip v w):=rfl;clear hhw hlt pY;replace bP:=Xk bP;replace Ie:=Xk Ie;replace gB:=Xk gB;replace hJ:=Xk hJ;replace hw:=Xk hw;generalize (n.vpcs.map aD).take k=L at*;cases e1:(ck n v.id==ck n w.id)with
   |false=>
    have hf:=Xk (Ie.out (by rw[gB.out,e1];rfl));have z1z:=Ln.mk (ls:=[0]) (hmv);have z2z:=Lm.mk (Ln.mk (ls:=[0]) (hmw));refine rY ?_ ?_ ?_ ?_ ?_ ?_ ?_ ?_<;>first|(with_reducible exact True.intro)|intros
    exact kz _ _ hf.out (wf)
   |true=>
    cases e2:ip v w with
    |true=>
     have hb:R=false:=bP.out (by rw[gB.out,e1,e2];rfl);rw[hb];replace hb:=Xk hb;rw[e2]at gA;have z1z:=Ln.mk (ls:=[0]) (hmv);have z2z:=Lm.mk (Ln.mk (ls:=[0]) (hmw));refine rY ?_ ?_ ?_ ?_ ?_ ?_ ?_ ?_<;>first|(with_reducible exact True.intro)|intros
     all_goals exact ap.refl _
    |false=>
     have hf:=Xk (Ie.out (by rw[gB.out,e1,e2];rfl));rw[e2]at gA;have z1z:=Ln.mk (ls:=[0]) (hmv);have z2z:=Lm.mk (Ln.mk (ls:=[0]) (hmw));refine rY ?_ ?_ ?_ ?_ ?_ ?_ ?_ ?_<;>first|(with_reducible exact True.intro)|intros
     exact kz _ _ hf.out (wf)
  ·intro hJ C2;rw[Xq]at hJ;have rj:∀(i:Nat) (u w:Vpc),i < k+1→n.vpcs[i]? =some u→w∈n.vpcs.take i→kS n u w=false:=fun i u w hi hu hw=>by
    rcases XO i k with h|h
    ·exact hI.out i u w h hu hw
    ·obtain rfl:i=k:=by omega
     rw[hv]at hu;rw[←XX.inj hu];exact hJ w hw
   replace rj:=Xk rj;replace hJ:=Xk hJ;rw[hlt];refine ay ?_<;>intros;exact hC _ _ rj.out (wf)
 ·intro hI C;have hb:R=true:=by
   rw[hR.out];exact wJ fun i v w hv hw=>hI i v w (Xo.1 hv).1 hv hw
  rw[hb];replace hb:=Xk hb;replace hI:=Xk hI;exact bo;all_goals exact ap.refl _
def kT (n:Net)(l:Lnk):Bool:=(eO n l.a).isSome&&((eO n l.b).isSome&&decide (l.a < l.b))
def iJ:List Lnk→Bool
 |l::m::ls=>decide (rW l m < 0)&&iJ (m::ls)
 |_=>true
theorem Bd:∀(l:List Lnk),iJ l=true↔∀j (h:j+1 < l.length),rW l[j] l[j+1] < 0
 |[]=>by simp[iJ]
 |[a]=>by simp[iJ]
 |a::b::l=>by
  have ih:=Bd (b::l);simp only[iJ,Xy,decide_eq_true_eq,ih];constructor
  ·rintro⟨h1,h2⟩ j hj;cases j with
   |zero=>exact h1
   |succ j=>exact h2 j (by simpa using hj)
  ·intro h;exact⟨h 0 (by simp),fun j hj=>h (j+1) (by simpa using hj)⟩
def o4 (n:Net):Bool:=n.vpcs.all (fun v=>cn v==0)&&eJ (·.id) n.vpcs
def dy (n:Net):Int:=if n.vpcs.length>6∨n.links.length>12 then 2 else if o4 n&&(n.links.all (kT n)&&(iJ n.links&&eK n))then 0 else 1
theorem iq {n:Net}{x:Int}(h:(eO n x).isSome=true):x∈n.vpcs.map (·.id):=by
 obtain⟨v,hv⟩:=Zy.1 h;unfold eO at hv;have h1:=YO hv;have h2:=Zv hv;exact XH.2 ⟨v,h1,by simpa using h2⟩
theorem gq {n:Net}(h0:¬(n.vpcs.length>6∨n.links.length>12))(h:o4 n=false∨n.links.all (kT n)=false∨iJ n.links=false∨eK n=false):dy n=1:=by
 unfold dy;rw[if_neg h0];rcases h with h|h|h|h<;>simp[h]
theorem tE {n:Net}(h0:¬(n.vpcs.length>6∨n.links.length>12))(h1:o4 n=true)(h2:n.links.all (kT n)=true)(h3:iJ n.links=true)(h4:eK n=true):dy n=0:=by
 unfold dy;rw[if_neg h0,h1,h2,h3,h4];rfl
def lK (l:List Vpc):Int:=(l.getLast?.map (·.id)).getD 0
theorem qN (l:List Vpc)(v:Vpc):lK (l++[v])=v.id:=by simp[lK]
theorem wK {l:List Vpc}(hs:l.Pairwise fun a b=>a.id < b.id){v:Vpc}(h:lK l < v.id):(l++[v]).Pairwise fun a b=>a.id < b.id:=by
 rw[Zp];refine⟨hs,by simp,fun a ha b hb=>?_⟩;rw[X7.1 hb];rcases List.eq_nil_or_concat l with rfl|⟨l',x,rfl⟩
 ·cases ha
 ·rw[List.concat_eq_append]at*;rw[qN]at h;rw[Zp]at hs;rcases X4.1 ha with ha|ha
  ·have:=hs.2.2 a ha x (by simp);omega
  ·rw[X7.1 ha];exact h
theorem zT {l:List Vpc}{v:Vpc}(hv:1≤v.id)(h:v.id≤lK l):¬(l++[v]).Pairwise fun a b=>a.id < b.id:=by
 intro hp;rw[Zp]at hp;rcases List.eq_nil_or_concat l with rfl|⟨l',x,rfl⟩
 ·simp[lK]at h;omega
 ·rw[List.concat_eq_append]at*;rw[qN]at h;have:=hp.2.2 x (by simp) v (by simp);omega
theorem kU {n:Net}(h:o4 n=true)(k:Nat):(∀v∈n.vpcs.take k,cn v=0)∧(n.vpcs.take k).Pairwise fun a b=>a.id < b.id:=by
 unfold o4 at h;simp only[Xy,XB,fQ,beq_iff_eq]at h;exact⟨fun v hv=>h.1 v (Yc hv),h.2.sublist (Y' _ _)⟩
theorem wL {n:Net}(h1:∀v∈n.vpcs,cn v=0)(h2:n.vpcs.Pairwise fun a b=>a.id < b.id):o4 n=true:=by
 unfold o4;simp only[Xy,XB,fQ,beq_iff_eq];exact⟨h1,h2⟩
theorem tF:∀(l:List Lnk) (x:Lnk),iJ (l++[x])=(iJ l&&(match l.getLast? with|some y=>decide (rW y x < 0)|none=>true))
 |[],x=>rfl
 |[a],x=>by simp[iJ]
 |a::b::l,x=>by
  have ih:=tF (b::l) x;have e:(a::b::l).getLast? =(b::l).getLast? :=by simp[List.getLast?_cons_cons]
  rw[X6,X6,iJ,←X6,ih,e,iJ,Z']
theorem zU {l:List Lnk}(h:iJ l=true)(k:Nat):iJ (l.take k)=true:=by
 rw[Bd]at h ⊢;intro j hj;rw[ZX,ZX];exact h j (by rw[Xp]at hj;omega)
theorem tG {α:Type}{l:List α}{j:Nat}{y:α}(h:l[j]? =some y):(l.take (j+1)).getLast? =some y:=by rw[ah h];simp
theorem wM (n:Net):ae prog 59 [.agg (eI n)] (.v (.int .i64 (dy n))):=by
 obtain⟨R,hR⟩:∃R,R=dy n:=⟨_,rfl⟩;rw[←hR];replace hR:=Xk hR;by_cases h6:n.vpcs.length>6
 ·have Wo:decide ((n.vpcs.length:Int)>6)=true:=by simp;omega
  have hr:R=2:=by rw[hR.out,dy,if_pos (.inl h6)]
  rw[hr];replace hr:=Xk hr;refine pj func59 ntmps59 results59 ?_;exact bo;all_goals exact ap.refl _
 by_cases Wp:n.links.length>12
 ·have Wo:decide ((n.vpcs.length:Int)>6)=false:=by simp;omega
  have Ul:decide ((n.links.length:Int)>12)=true:=by simp;omega
  have hr:R=2:=by rw[hR.out,dy,if_pos (.inr Wp)]
  rw[hr];replace hr:=Xk hr;refine pj func59 ntmps59 results59 ?_;exact bo;all_goals exact ap.refl _
 have Wo:decide ((n.vpcs.length:Int)>6)=false:=by simp;omega
 have Ul:decide ((n.links.length:Int)>12)=false:=by simp;omega
 have cB:¬(n.vpcs.length>6∨n.links.length>12):=by omega
 refine pj func59 ntmps59 results59 ?_;refine ay ?_<;>intros;refine br af al n.vpcs (fun k=>(∀v∈n.vpcs.take k,cn v=0)∧(n.vpcs.take k).Pairwise fun a b=>a.id < b.id) (fun k=>[(25,.d (.v (.int .i64 k))),(24,.d (.v (.int .i64 n.vpcs.length))),(23,.d (.sl 3 (n.vpcs.map aD))),(3,.d (.v (.int .i64 (lK (n.vpcs.take k))))),(2,.d (.v (.int .i64 0))),(1,.ptr 0 0)]) (fun _=>[.box 34 ((eI n).map .d)]) (by simp) (wf) ?_ ?_
 ·intro k v hv hk hI C hC;have fy:(k:Int) < (n.vpcs.length:Int):=by omega
  have dW:=wi k (by omega);have gx:=ah hv;have tZ:lK (n.vpcs.take (k+1))=v.id:=by rw[gx,qN]
  have hcv:=oY v;obtain⟨LA,Um⟩:∃x,x=lK (n.vpcs.take k):=⟨_,rfl⟩;rw[←Um];by_cases hc:cn v=0
  ·have hid:1≤v.id:=by have:=(bc hc).id;simp[cU]at this;exact this.1
   rw[hc]at hcv;by_cases hle:v.id≤LA
   ·have hr:R=1:=by
     rw[hR.out];refine gq cB (.inl ?_);cases hb:o4 n with
     |false=>rfl
     |true=>
      have:=(kU hb (k+1)).2;rw[gx]at this;exact absurd this (zT hid (by rw[←Um];exact hle))
    rw[hr];clear hr hI hid hC Um tZ gx;replace hc:=Xk hc;exact bo;all_goals exact ap.refl _
   ·have rj:(∀v∈n.vpcs.take (k+1),cn v=0)∧(n.vpcs.take (k+1)).Pairwise fun a b=>a.id < b.id:=by
     rw[gx];exact⟨fun u hu=>by
      rcases X4.1 hu with hu|hu
      ·exact hI.1 u hu
      ·rw[X7.1 hu];exact hc,wK hI.2 (by rw[←Um];omega)⟩
    have jR:decide (v.id≤LA)=false:=by simpa using hle
    clear hI hid gx;replace hc:=Xk hc;replace hle:=Xk hle;replace rj:=Xk rj;replace tZ:=Xk tZ;replace Um:=Xk Um;refine ay ?_<;>intros;refine hC _ _ rj.out ?_;simp only[tZ.out];exact wf
  ·have hr:R=1:=by
    rw[hR.out];refine gq cB (.inl ?_);cases hb:o4 n with
    |false=>rfl
    |true=>exact absurd ((kU hb (k+1)).1 v (by rw[gx];simp)) hc
   have hcb:(cn v !=0)=true:=by simpa using hc
   rw[hr];clear hr hI hC Um tZ gx;replace hc:=Xk hc;exact bo;all_goals exact ap.refl _
 ·intro hI C;rw[Xq]at hI ⊢;have OL:=wL hI.1 hI.2;have oq:=hI.2;generalize lK n.vpcs=LA;replace hI:=Xk hI;replace oq:=Xk oq;replace OL:=Xk OL;refine ay ?_<;>intros;refine br af al n.links (fun k=>(∀l∈n.links.take k,kT n l=true)∧iJ (n.links.take k)=true) (fun k=>[(44,.d (.v (.int .i64 k))),(43,.d (.v (.int .i64 n.links.length))),(42,.d (.sl 2 (n.links.map cT))),(2,.d (.v (.int .i64 0))),(1,.ptr 0 0)]) (fun _=>[.box 34 ((eI n).map .d)]) (by simp[iJ]) (wf) ?_ ?_
  ·intro k l hl hk hJ C hC;have fy:(k:Int) < (n.links.length:Int):=by omega
   have dW:=wi k (by omega);have gx:=ah hl;have sL:=DK n l.a (by omega) oq.out;have oe:=DK n l.b (by omega) oq.out;have bP:kT n l=false→R=1:=fun h=>by
    rw[hR.out];refine gq cB (.inr (.inl ?_));rw[YX];exact⟨l,Xl hl,by simp[h]⟩
   have jR:kT n l=((eO n l.a).isSome&&((eO n l.b).isSome&&decide (l.a < l.b))):=rfl;have fY:kT n l=true→iJ (n.links.take (k+1))=true→(∀l∈n.links.take (k+1),kT n l=true)∧iJ (n.links.take (k+1))=true:=fun h g=>by
    refine⟨?_,g⟩;rw[gx];intro u hu;rcases X4.1 hu with hu|hu
    ·exact hJ.1 u hu
    ·rw[X7.1 hu];exact h
   have x8:iJ (n.links.take (k+1))=false→R=1:=fun h=>by
    rw[hR.out];refine gq cB (.inr (.inr (.inl ?_)));cases hb:iJ n.links with
    |false=>rfl
    |true=>rw[zU hb]at h;cases h
   have t0:=tF (n.links.take k) l;rw[←gx,hJ.2,YC]at t0;clear gx;replace hJ:=Xk hJ;replace bP:=Xk bP;replace x8:=Xk x8;replace fY:=Xk fY;cases ea:eO n l.a with
   |none=>
    rw[ea]at sL jR;have hr:R=1:=bP.out (by rw[jR];rfl);rw[hr];clear hr jR t0;replace ea:=Xk ea;cases eb:eO n l.b with
    |none=>
     rw[eb]at oe;replace eb:=Xk eb;have z1z:=Ln.mk (ls:=[0]) (sL);have z2z:=Lm.mk (Ln.mk (ls:=[0]) (oe));refine rY ?_ ?_ ?_ ?_ ?_ ?_ ?_ ?_<;>first|(with_reducible exact True.intro)|intros
     all_goals exact ap.refl _
    |some w=>
     rw[eb]at oe;replace eb:=Xk eb;have z1z:=Ln.mk (ls:=[0]) (sL);have z2z:=Lm.mk (Ln.mk (ls:=[0]) (oe));refine rY ?_ ?_ ?_ ?_ ?_ ?_ ?_ ?_<;>first|(with_reducible exact True.intro)|intros
     all_goals exact ap.refl _
   |some v=>
    rw[ea]at sL jR;replace ea:=Xk ea;cases eb:eO n l.b with
    |none=>
     rw[eb]at oe jR;have hr:R=1:=bP.out (by rw[jR];rfl);rw[hr];clear hr jR t0;replace eb:=Xk eb;have z1z:=Ln.mk (ls:=[0]) (sL);have z2z:=Lm.mk (Ln.mk (ls:=[0]) (oe));refine rY ?_ ?_ ?_ ?_ ?_ ?_ ?_ ?_<;>first|(with_reducible exact True.intro)|intros
     all_goals exact ap.refl _
    |some w=>
     rw[eb]at oe jR;replace eb:=Xk eb;by_cases kh:l.a < l.b
     ·have hge:decide (l.a≥l.b)=false:=by simp;omega
      have hlt:kT n l=true:=by rw[jR];simp[kh]
      clear jR;replace hlt:=Xk hlt;by_cases hk0:k=0
      ·have Wq:decide ((k:Int)>0)=false:=by simp;omega
       have hg:=fY.out hlt.out (by rw[t0,hk0];rfl);clear t0;replace hg:=Xk hg;replace hk0:=Xk hk0;replace kh:=Xk kh;have z1z:=Ln.mk (ls:=[0]) (sL);have z2z:=Lm.mk (Ln.mk (ls:=[0]) (oe));refine rY ?_ ?_ ?_ ?_ ?_ ?_ ?_ ?_<;>first|(with_reducible exact True.intro)|intros
       exact hC _ _ hg.out (wf)
      ·obtain⟨j,hj⟩:∃j,k=j+1:=⟨k - 1,by omega⟩;obtain⟨y,hy⟩:∃y,n.links[j]? =some y:=⟨_,Xj (by omega)⟩;have Wq:decide ((k:Int)>0)=true:=by simp;omega
       have bV:IntKind.i64.wrap ((k:Int) - 1)=(j:Int):=by rw[IntKind.wrap_i64];omega
       have mb:(j:Int) < (n.links.length:Int):=by omega
       have hor:=Qa y l;rw[hj,tG hy]at t0;simp only at t0;rw[←hj]at t0;replace hj:=Xk hj;replace hk0:=Xk hk0;replace kh:=Xk kh;by_cases ho:rW y l < 0
       ·have hg:=fY.out hlt.out (by rw[t0];simpa using ho);have hob:decide (rW y l≥0)=false:=by simpa using ho
        clear t0;replace hg:=Xk hg;replace ho:=Xk ho;generalize rW y l=O at*;have z1z:=Ln.mk (ls:=[0]) (sL);have z2z:=Lm.mk (Ln.mk (ls:=[0]) (oe));refine rY ?_ ?_ ?_ ?_ ?_ ?_ ?_ ?_<;>first|(with_reducible exact True.intro)|intros
        exact hC _ _ hg.out (wf)
       ·have hr:R=1:=x8.out (by rw[t0];simpa using ho);have hob:decide (rW y l≥0)=true:=by simpa using ho
        rw[hr];clear t0 hr;replace ho:=Xk ho;generalize rW y l=O at*;have z1z:=Ln.mk (ls:=[0]) (sL);have z2z:=Lm.mk (Ln.mk (ls:=[0]) (oe));refine rY ?_ ?_ ?_ ?_ ?_ ?_ ?_ ?_<;>first|(with_reducible exact True.intro)|intros
        all_goals exact ap.refl _
     ·have hge:decide (l.a≥l.b)=true:=by simp;omega
      have hr:R=1:=bP.out (by rw[jR];simp;omega);rw[hr];clear hr jR t0;replace kh:=Xk kh;have z1z:=Ln.mk (ls:=[0]) (sL);have z2z:=Lm.mk (Ln.mk (ls:=[0]) (oe));refine rY ?_ ?_ ?_ ?_ ?_ ?_ ?_ ?_<;>first|(with_reducible exact True.intro)|intros
      all_goals exact ap.refl _
  ·intro hJ C;rw[Xq]at hJ;have OM:=Bc n (by omega) (by omega) (fun v hv=>by have:=(bc (hI.out.1 v hv)).n4;omega) (fun l hl=>by
    have:=hJ.1 l hl;unfold kT at this;simp only[Xy]at this;exact⟨iq this.1,iq this.2.1⟩)
   have hr:R=if eK n=true then 0 else 1:=by
    rw[hR.out];split
    ·rename_i hp;exact tE cB OL.out (by rw[XB];exact hJ.1) hJ.2 hp
    ·rename_i hp;exact gq cB (.inr (.inr (.inr (by simpa using hp))))
   rw[hr];clear hr;replace hJ:=Xk hJ;cases hp:eK n with
   |true=>
    rw[hp]at OM;replace hp:=Xk hp;exact bo;all_goals exact ap.refl _
   |false=>
    rw[hp]at OM;replace hp:=Xk hp;exact bo;all_goals exact ap.refl _
structure NetOK (n:Net):Prop where
 n6:n.vpcs.length≤6
 n12:n.links.length≤12
 vp:∀v∈n.vpcs,cn v=0
 rise:n.vpcs.Pairwise fun a b=>a.id < b.id
 lk:∀l∈n.links,kT n l=true
 rk:iJ n.links=true
 pe:eK n=true
theorem iM {n:Net}:dy n=0↔NetOK n:=by
 constructor
 ·intro h;unfold dy at h;split at h
  ·cases h
  ·rename_i h0;split at h
   ·rename_i h1;simp only[Xy]at h1;have:=kU h1.1 n.vpcs.length;rw[Xq]at this;exact⟨by omega,by omega,this.1,this.2,by simpa using h1.2.1,h1.2.2.1,h1.2.2.2⟩
   ·cases h
 ·rintro⟨a,b,c,d,e,f,g⟩;exact tE (by omega) (wL c d) (by simpa using e) f g
theorem NetOK.ids {n:Net}(h:NetOK n):∀l∈n.links,l.a∈n.vpcs.map (·.id)∧l.b∈n.vpcs.map (·.id):=fun l hl=>by
 have:=h.lk l hl;unfold kT at this;simp only[Xy]at this;exact⟨iq this.1,iq this.2.1⟩
theorem zV {α:Type}{enc:α→List D}(ef:∀x,(enc x).length=9)(p:α→Bool)(l:List α)(g:Nat)(caps:List D)(hl:l.length≤1000000000)(hc:∀x∈l,ae prog g (.agg (enc x)::caps) (.v (.bool (p x)))):
 ae prog 236 [.sl 9 (l.map enc),.clo g caps] (.v (.int .i64 (db p l))):=by
 refine pj func236 ntmps236 results236 ?_;refine ay ?_<;>intros;refine cf af al (fun m e h=>∃k:Nat,k≤l.length∧(∀x∈l.take k,p x=false)∧m=l.length - k∧e=[(8,.d (.v (.int .i64 k))),(7,.d (.v (.int .i64 l.length))),(4,.d (.v (.int .i64 0))),(1,.d (.clo g caps)),(0,.d (.sl 9 (l.map enc)))]∧h=[]) _ _ _ ⟨0,XL _,by simp,rfl,rfl,rfl⟩ ?_ ?_
 ·exact wf (x:=[]) (hh:=rfl) (he:=⟨rfl,rfl,rfl,rfl,rfl,trivial⟩)
 ·rintro m e h ⟨k,hk,cB,rfl,rfl,rfl⟩ CL m5;by_cases hlt:k < l.length
  ·obtain⟨x,hx⟩:∃x,l[k]? =some x:=⟨_,Xj hlt⟩;have ec:(k:Int) < (l.length:Int):=by omega
   have dW:=wi k (by omega);have aT:=ef x;have gx:(enc x).take 9=enc x:=XI (by omega);have ji:=hc x (Xl hx);cases hp:p x with
   |false=>
    rw[hp]at ji;refine ay ?_<;>intros;refine m5 _ _ _ _ _ ?_ ⟨k+1,hlt,?_,rfl,rfl,rfl⟩ (wf (x:=[]) (hh:=rfl) (he:=⟨rfl,rfl,rfl,rfl,rfl,trivial⟩))
    ·omega
    ·intro y hy;rw[ah hx]at hy;rcases X4.1 hy with hy|hy
     ·exact cB y hy
     ·rw[X7]at hy;rw[hy];exact hp
   |true=>
    rw[hp]at ji;have lv:db p l=k:=fh hx hp cB;exact bo;all_goals rw[lv]
    all_goals exact ap.refl _
  ·obtain rfl:k=l.length:=by omega
   rw[Xq]at cB;refine ay ?_<;>intros;all_goals rw[fi cB]
   all_goals exact ap.refl _
theorem Jr {α:Type}{enc:α→List D}(ef:∀x,(enc x).length=9)(p:α→Bool)(l:List α)(g:Nat)(caps:List D)(hl:l.length≤1000000000)(hc:∀x∈l,ae prog g (.agg (enc x)::caps) (.v (.bool (p x)))):
 ae prog 158 [.sl 9 (l.map enc),.clo g caps] (.v (.bool (l.any p))):=by
 have hi:=zV ef p l g caps hl hc;have pn:=go p l;refine pj func158 ntmps158 results158 ?_;exact bo;all_goals exact ap.refl _
theorem nu {α:Type}{enc:α→List D}(ef:∀x,(enc x).length=5)(p:α→Bool)(l:List α)(g:Nat)(caps:List D)(hl:l.length≤1000000000)(hc:∀x∈l,ae prog g (.agg (enc x)::caps) (.v (.bool (p x)))):
 ae prog 165 [.sl 5 (l.map enc),.clo g caps] (.v (.int .i64 (db p l))):=by
 refine pj func165 ntmps165 results165 ?_;refine ay ?_<;>intros;refine cf af al (fun m e h=>∃k:Nat,k≤l.length∧(∀x∈l.take k,p x=false)∧m=l.length - k∧e=[(8,.d (.v (.int .i64 k))),(7,.d (.v (.int .i64 l.length))),(4,.d (.v (.int .i64 0))),(1,.d (.clo g caps)),(0,.d (.sl 5 (l.map enc)))]∧h=[]) _ _ _ ⟨0,XL _,by simp,rfl,rfl,rfl⟩ ?_ ?_
 ·exact wf (x:=[]) (hh:=rfl) (he:=⟨rfl,rfl,rfl,rfl,rfl,trivial⟩)
 ·rintro m e h ⟨k,hk,cB,rfl,rfl,rfl⟩ CL m5;by_cases hlt:k < l.length
  ·obtain⟨x,hx⟩:∃x,l[k]? =some x:=⟨_,Xj hlt⟩;have ec:(k:Int) < (l.length:Int):=by omega
   have dW:=wi k (by omega);have aT:=ef x;have gx:(enc x).take 5=enc x:=XI (by omega);have ji:=hc x (Xl hx);cases hp:p x with
   |false=>
    rw[hp]at ji;refine ay ?_<;>intros;refine m5 _ _ _ _ _ ?_ ⟨k+1,hlt,?_,rfl,rfl,rfl⟩ (wf (x:=[]) (hh:=rfl) (he:=⟨rfl,rfl,rfl,rfl,rfl,trivial⟩))
    ·omega
    ·intro y hy;rw[ah hx]at hy;rcases X4.1 hy with hy|hy
     ·exact cB y hy
     ·rw[X7]at hy;rw[hy];exact hp
   |true=>
    rw[hp]at ji;have lv:db p l=k:=fh hx hp cB;exact bo;all_goals rw[lv]
    all_goals exact ap.refl _
  ·obtain rfl:k=l.length:=by omega
   rw[Xq]at cB;refine ay ?_<;>intros;all_goals rw[fi cB]
   all_goals exact ap.refl _
theorem qO {α:Type}{enc:α→List D}(ef:∀x,(enc x).length=5)(p:α→Bool)(l:List α)(g:Nat)(caps:List D)(hl:l.length≤1000000000)(hc:∀x∈l,ae prog g (.agg (enc x)::caps) (.v (.bool (p x)))):
 ae prog 119 [.sl 5 (l.map enc),.clo g caps] (.v (.bool (l.any p))):=by
 have hi:=nu ef p l g caps hl hc;have pn:=go p l;refine pj func119 ntmps119 results119 ?_;exact bo;all_goals exact ap.refl _
theorem MJ (a b:Int):ae prog 261 [.v (.int .i64 a),.v (.int .i64 b)] (.v (.bool (decide (a < b)))):=by
 cases h:decide (a < b)with
 |true=>
  refine pj func261 ntmps261 results261 ?_;have z1z:=j3 a;have z2z:=j3 b;exact bo;all_goals exact ap.refl _
 |false=>
  refine pj func261 ntmps261 results261 ?_;have z1z:=j3 a;have z2z:=j3 b;exact bo;all_goals exact ap.refl _
theorem tH {α:Type}{enc:α→List D}(ef:∀x,(enc x).length=9)(key:α→Int)(l:List α)(t:Int)(g:Nat)(caps:List D)(hl:l.length≤1000000000)(hs:l.Pairwise fun a b=>key a < key b)(hc:∀x∈l,ae prog g (.agg (enc x):: .v (.int .i64 t)::caps) (.v (.int .i64 (d7 (key x) t)))):
 ae prog 233 [.sl 9 (l.map enc),.v (.int .i64 t),.clo g caps] (.tup [.v (.int .i64 (m4 key t l)),.v (.bool (rS key t l))]):=by
 refine pj func233 ntmps233 results233 ?_;refine ay ?_<;>intros;refine cf af al (fun m e h=>∃i j:Nat,i≤j∧j≤l.length∧(∀q (hq:q < l.length),q < i→key l[q] < t)∧(∀q (hq:q < l.length),j≤q→t≤key l[q])∧m=j - i∧
  e=[(10,.d (.v (.int .i64 j))),(9,.d (.v (.int .i64 i))),(8,.d (.v (.int .i64 l.length))),(7,.d (.v (.bool false))),(6,.d (.v (.int .i64 0))),(2,.d (.clo g caps)),(1,.d (.v (.int .i64 t))),(0,.d (.sl 9 (l.map enc)))]∧h=[]) _ _ _ ⟨0,l.length,XL _,XC _,fun q hq h=>absurd h (YT _),fun q hq h=>by omega,rfl,rfl,rfl⟩ ?_ ?_
 ·exact wf (x:=[]) (hh:=rfl) (he:=⟨rfl,rfl,rfl,rfl,rfl,rfl,rfl,rfl,trivial⟩)
 ·rintro m e h ⟨i,j,hij,hj,jV,lX,rfl,rfl,rfl⟩ CL m5;by_cases hlt:i < j
  ·obtain⟨q,hq⟩:∃q,q=(i+j) / 2:=⟨_,rfl⟩;have AB:q < l.length:=by omega
   obtain⟨x,hx⟩:∃x,l[q]? =some x:=⟨_,Xj AB⟩;have od:l[q]=x:=by rw[Xj AB]at hx;exact XX.inj hx
   have ec:(i:Int) < (j:Int):=by omega
   have bV:IntKind.i64.wrap ((i:Int)+(j:Int))=((i+j:Nat):Int):=by rw[IntKind.wrap_i64];omega
   have cI:IntKind.u64.wrap ((i+j:Nat):Int)=((i+j:Nat):Int):=by rw[ww];omega
   have Kn:(((i+j:Nat):Int)).fdiv (2 ^ min 1 64)=(q:Int):=by
    rw[hq,show (min 1 64:Nat)=1 from rfl,_o,Int.pow_zero,Int.one_mul,ZP _ (by omega)];omega
   have pP:IntKind.i64.wrap (q:Int)=(q:Int):=by rw[IntKind.wrap_i64];omega
   have OJ:=wi q (by omega);have aT:=ef x;have gx:(enc x).take 9=enc x:=XI (by omega);have ji:=hc x (Xl hx);have Ki:=rR (key x) t;have hqd:i≤q∧q < j:=by omega
   replace hq:=Xk hq;by_cases hk:key x < t
   ·have fy:decide (key x < t)=true:=by simpa using hk
    refine ay ?_<;>intros;refine m5 _ _ _ _ _ ?_ ⟨q+1,j,by omega,hj,?_,lX,rfl,rfl,rfl⟩ (wf (x:=[]) (hh:=rfl) (he:=⟨rfl,rfl,rfl,rfl,rfl,rfl,rfl,rfl,trivial⟩))
    ·omega
    ·intro q' hq' Ke;rcases XO q' q with h1|h1
     ·have:=XM.1 hs q' q hq' AB h1;rw[od]at this;omega
     ·obtain rfl:q'=q:=by omega
      rw[od];exact hk
   ·have fy:decide (key x < t)=false:=by simpa using hk
    refine ay ?_<;>intros;refine m5 _ _ _ _ _ ?_ ⟨i,q,by omega,by omega,jV,?_,rfl,rfl,rfl⟩ (wf (x:=[]) (hh:=rfl) (he:=⟨rfl,rfl,rfl,rfl,rfl,rfl,rfl,rfl,trivial⟩))
    ·omega
    ·intro q' hq' Ke;rcases XO q q' with h1|h1
     ·have:=XM.1 hs q q' AB hq' h1;rw[od]at this;omega
     ·obtain rfl:q'=q:=by omega
      rw[od];omega
  ·obtain rfl:i=j:=by omega
   have jR:=tt hj jV lX;have sG:rS key t l=match l[i]? with|some x=>key x==t|none=>false:=by unfold rS;rw[jR];all_goals(cases l[i]? <;>rfl)
   replace jR:=Xk jR;replace sG:=Xk sG;by_cases fl:i < l.length
   ·obtain⟨x,hx⟩:∃x,l[i]? =some x:=⟨_,Xj fl⟩;have OK:decide ((i:Int) < (l.length:Int))=true:=by simpa using fl
    have aT:=ef x;have gx:(enc x).take 9=enc x:=XI (by omega);have ji:=hc x (Xl hx);have hcz:=tr (key x) t;refine ay ?_<;>intros;all_goals rw[sG.out,hx,jR.out]
    all_goals exact ap.refl _
   ·have OK:decide ((i:Int) < (l.length:Int))=false:=by simpa using fl
    refine ay ?_<;>intros;all_goals rw[sG.out,jR.out,XN (by omega)]
    all_goals exact ap.refl _
theorem FT {α:Type}{enc:α→List D}(ef:∀x,(enc x).length=5)(key:α→Int)(l:List α)(t:Int)(g:Nat)(caps:List D)(hl:l.length≤1000000000)(hs:l.Pairwise fun a b=>key a < key b)(hc:∀x∈l,ae prog g (.agg (enc x):: .v (.int .i64 t)::caps) (.v (.int .i64 (d7 (key x) t)))):
 ae prog 239 [.sl 5 (l.map enc),.v (.int .i64 t),.clo g caps] (.tup [.v (.int .i64 (m4 key t l)),.v (.bool (rS key t l))]):=by
 refine pj func239 ntmps239 results239 ?_;refine ay ?_<;>intros;refine cf af al (fun m e h=>∃i j:Nat,i≤j∧j≤l.length∧(∀q (hq:q < l.length),q < i→key l[q] < t)∧(∀q (hq:q < l.length),j≤q→t≤key l[q])∧m=j - i∧
  e=[(10,.d (.v (.int .i64 j))),(9,.d (.v (.int .i64 i))),(8,.d (.v (.int .i64 l.length))),(7,.d (.v (.bool false))),(6,.d (.v (.int .i64 0))),(2,.d (.clo g caps)),(1,.d (.v (.int .i64 t))),(0,.d (.sl 5 (l.map enc)))]∧h=[]) _ _ _ ⟨0,l.length,XL _,XC _,fun q hq h=>absurd h (YT _),fun q hq h=>by omega,rfl,rfl,rfl⟩ ?_ ?_
 ·exact wf (x:=[]) (hh:=rfl) (he:=⟨rfl,rfl,rfl,rfl,rfl,rfl,rfl,rfl,trivial⟩)
 ·rintro m e h ⟨i,j,hij,hj,jV,lX,rfl,rfl,rfl⟩ CL m5;by_cases hlt:i < j
  ·obtain⟨q,hq⟩:∃q,q=(i+j) / 2:=⟨_,rfl⟩;have AB:q < l.length:=by omega
   obtain⟨x,hx⟩:∃x,l[q]? =some x:=⟨_,Xj AB⟩;have od:l[q]=x:=by rw[Xj AB]at hx;exact XX.inj hx
   have ec:(i:Int) < (j:Int):=by omega
   have bV:IntKind.i64.wrap ((i:Int)+(j:Int))=((i+j:Nat):Int):=by rw[IntKind.wrap_i64];omega
   have cI:IntKind.u64.wrap ((i+j:Nat):Int)=((i+j:Nat):Int):=by rw[ww];omega
   have Kn:(((i+j:Nat):Int)).fdiv (2 ^ min 1 64)=(q:Int):=by
    rw[hq,show (min 1 64:Nat)=1 from rfl,_o,Int.pow_zero,Int.one_mul,ZP _ (by omega)];omega
   have pP:IntKind.i64.wrap (q:Int)=(q:Int):=by rw[IntKind.wrap_i64];omega
   have OJ:=wi q (by omega);have aT:=ef x;have gx:(enc x).take 5=enc x:=XI (by omega);have ji:=hc x (Xl hx);have Ki:=rR (key x) t;have hqd:i≤q∧q < j:=by omega
   replace hq:=Xk hq;by_cases hk:key x < t
   ·have fy:decide (key x < t)=true:=by simpa using hk
    refine ay ?_<;>intros;refine m5 _ _ _ _ _ ?_ ⟨q+1,j,by omega,hj,?_,lX,rfl,rfl,rfl⟩ (wf (x:=[]) (hh:=rfl) (he:=⟨rfl,rfl,rfl,rfl,rfl,rfl,rfl,rfl,trivial⟩))
    ·omega
    ·intro q' hq' Ke;rcases XO q' q with h1|h1
     ·have:=XM.1 hs q' q hq' AB h1;rw[od]at this;omega
     ·obtain rfl:q'=q:=by omega
      rw[od];exact hk
   ·have fy:decide (key x < t)=false:=by simpa using hk
    refine ay ?_<;>intros;refine m5 _ _ _ _ _ ?_ ⟨i,q,by omega,by omega,jV,?_,rfl,rfl,rfl⟩ (wf (x:=[]) (hh:=rfl) (he:=⟨rfl,rfl,rfl,rfl,rfl,rfl,rfl,rfl,trivial⟩))
    ·omega
    ·intro q' hq' Ke;rcases XO q q' with h1|h1
     ·have:=XM.1 hs q q' AB hq' h1;rw[od]at this;omega
     ·obtain rfl:q'=q:=by omega
      rw[od];omega
  ·obtain rfl:i=j:=by omega
   have jR:=tt hj jV lX;have sG:rS key t l=match l[i]? with|some x=>key x==t|none=>false:=by unfold rS;rw[jR];all_goals(cases l[i]? <;>rfl)
   replace jR:=Xk jR;replace sG:=Xk sG;by_cases fl:i < l.length
   ·obtain⟨x,hx⟩:∃x,l[i]? =some x:=⟨_,Xj fl⟩;have OK:decide ((i:Int) < (l.length:Int))=true:=by simpa using fl
    have aT:=ef x;have gx:(enc x).take 5=enc x:=XI (by omega);have ji:=hc x (Xl hx);have hcz:=tr (key x) t;refine ay ?_<;>intros;all_goals rw[sG.out,hx,jR.out]
    all_goals exact ap.refl _
   ·have OK:decide ((i:Int) < (l.length:Int))=false:=by simpa using fl
    refine ay ?_<;>intros;all_goals rw[sG.out,jR.out,XN (by omega)]
    all_goals exact ap.refl _
section
open Go.Proofs
section
variable {w:World}{b o:Nat}{c0 c1 c2 c3 c4 c5 c6 c7 c8:Value}
theorem mI (h:lD w b o [c0,c1]):w.cell? ⟨b,o,none⟩=some c0∧w.cell? ⟨b,o+1,none⟩=some c1:=⟨h 0 (by simp),h 1 (by simp)⟩
end
theorem fK {w w':World}{b o:Nat}{cs:List Value}(hx:cW w w')(h:lD w b o cs):lD w' b o cs:=fun j hj=>cP hx (h j hj)
theorem Sl.ext {α:Type}{A:md}{w w':World}{k:Nat}{R:List Value→α→Prop}{ao:Option Addr}{cap:Nat}{l:List α}(h:Sl A w k R ao cap l)(hx:cW w w'):Sl A w' k R ao cap l:=by
 refine⟨h.cap_le,h.cap_max,fun i hi=>?_⟩;obtain⟨b,off,cs,h1,h2,h3,h4,h5⟩:=h.elem i hi;exact⟨b,off,cs,h1,h2,h3,h4,fK hx h5⟩
theorem Sl.nil {α:Type}{A:md}{w:World}{k:Nat}{R:List Value→α→Prop}{ao:Option Addr}{cap:Nat}(h:cap≤9223372036854775807):Sl A w k R ao cap ([]:List α):=
 ⟨XL _,h,fun i hi=>by simp at hi⟩
theorem Sl.take {α:Type}{A:md}{w:World}{k:Nat}{R:List Value→α→Prop}{ao:Option Addr}{cap:Nat}{l:List α}(h:Sl A w k R ao cap l)(n:Nat):Sl A w k R ao cap (l.take n):=by
 refine⟨Yu (List.length_take_le' n l) h.cap_le,h.cap_max,fun i hi=>?_⟩;have hi':i < l.length:=by rw[Xp]at hi;omega
 obtain⟨b,off,cs,h1,h2,h3,h4,h5⟩:=h.elem i hi';exact⟨b,off,cs,h1,h2,h3,by rw[ZX];exact h4,h5⟩
theorem Sl.mono {α:Type}{A:md}{w:World}{k:Nat}{R R':List Value→α→Prop}{ao:Option Addr}{cap:Nat}{l:List α}(h:Sl A w k R ao cap l)(hR:∀cs x,x∈l→R cs x→R' cs x):Sl A w k R' ao cap l:=by
 refine⟨h.cap_le,h.cap_max,fun i hi=>?_⟩;obtain⟨b,off,cs,h1,h2,h3,h4,h5⟩:=h.elem i hi;exact⟨b,off,cs,h1,h2,h3,hR _ _ (Ym hi) h4,h5⟩
def nS {α:Type}(p:α→Bool)(l:List α):Int:=match l.findIdx? p with|some i=>(i:Int)|none=> -1
theorem Hw {α:Type}{p:α→Bool}{l:List α}{k:Nat}(hk:k < l.length)(hp:p l[k]=true)(hn:∀j (h:j < k),p (l[j]'(by omega))=false):nS p l=k:=by
 have:l.findIdx? p=some k:=by
  rw[XV];exact⟨hk,hp,fun j hj=>by simp[hn j hj]⟩
 unfold nS;rw[this]
theorem DN {α:Type}{p:α→Bool}{l:List α}(hn:∀j (h:j < l.length),p l[j]=false):nS p l= -1:=by
 have:l.findIdx? p=none:=by
  rw[Yx];intro x hx;obtain⟨j,hj,rfl⟩:=Yf.1 hx;exact hn j hj
 unfold nS;rw[this]
theorem Hy {α:Type}(p:α→Bool)(l:List α):decide (nS p l≥0)=l.any p:=by
 unfold nS;cases h:l.findIdx? p with
 |none=>
  rw[Yx]at h;have:l.any p=false:=by rw[Yw];intro x hx;simp[h x hx]
  rw[this];rfl
 |some i=>
  rw[XV]at h;obtain⟨hi,hp,_⟩:=h;have:l.any p=true:=by rw[Yd];exact⟨l[i],Ym hi,hp⟩
  rw[this];simp
def MK {α:Type}(P:Program)(g:Nat)(lb:Array Value)(R:List Value→α→Prop)(p:α→Bool)(l:List α)(w:World):Prop:=
 ∀W,cW w W→∀x∈l,∀cs,R cs x→Calls P g (#[.agg cs.toArray]++lb) W fun e w'=>e= .returned (.bool (p x))∧cW W w'
end
section
open Go.Proofs
theorem DO {α:Type}{A:md}{R:List Value→α→Prop}(g:Nat)(lb:Array Value)(eg:∀args w,(callFunc g args).run prog w= .ok (.enter g args) w)(p:α→Bool)(l:List α)(ao:Option Addr)(cap:Nat)(w:World)(h:Sl A w 2 R ao cap l)(hp:MK prog g lb R p l w):
 Calls prog 206 #[.slice ao l.length cap,.func (.func g) #[] lb] w fun e w'=>e= .returned (.int .i64 (nS p l))∧cW w w':=by
 have gA:=h.cap_le;have Ki:=h.cap_max;obtain⟨r,hr⟩:∃r,r=nS p l:=⟨_,rfl⟩;rw[←hr];replace hr:=Xk hr;replace hp:=Xk hp;go_enter func206,ntmps206
 go_wp2_with fail
 go_loopw [5,8] (fun _ s8 wr=>∃k:Nat,k≤l.length∧s8= .int .i64 k∧Hid (∀j (h:j < k) (h':j < l.length),p l[j]=false)∧cW w wr) (fun _ s8 _=>l.length - (intOf s8).toNat)
 case atStart=>exact⟨0,XL _,rfl,Xk (fun j hj=>absurd hj (YT _)),Below.refl _ w⟩
 case round=>
  obtain⟨k,hk,rfl,bK,hx⟩:=hrel;by_cases hlt:k < l.length
  ·have ec:(k:Int) < (l.length:Int):=by omega
   obtain⟨b,off,cs,rfl,-,aT,hR,ly⟩:=h.elem k hlt;have iD:=hp.out wr hx l[k] (Ym hlt) cs hR;replace ly:=fK hx ly;obtain⟨q,hq⟩:∃q,q=p l[k]:=⟨_,rfl⟩;rw[←hq]at iD;replace hq:=Xk hq;clear h hR;match cs,aT with
   |[v0,v1],_=>
    obtain⟨k0,k1⟩:=mI ly;clear ly;replace iD:=Xk iD;cases q
    case true=>
     go_wp2_with fail
     refine iD.out.mono ?_;rintro e w1 ⟨rfl,oh⟩;go_wp2_with fail
     go_ret
     exact⟨bM (by rw[hr.out];exact(Hw hlt hq.out.symm fun j hj=>bK.out j hj (by omega)).symm),ag hx oh⟩
    case false=>
     go_wp2_with fail
     refine iD.out.mono ?_;rintro e w1 ⟨rfl,oh⟩;go_wp2_with fail
     go_roundw
     case rel=>exact⟨k+1,by omega,by go_num,Xk (fun j hj hj'=>by
      rcases _j (_l hj)with h1|h1
      ·exact bK.out j h1 hj'
      ·subst h1;exact hq.out.symm),ag hx oh⟩
     case measure=>simp[intOf];omega
  ·have ec:¬(k:Int) < (l.length:Int):=by omega
   obtain rfl:k=l.length:=by omega
   go_wp2_with fail
   go_ret
   exact⟨bM (by rw[hr.out];exact(DN fun j hj=>bK.out j hj hj).symm),hx⟩
theorem wN {α:Type}{A:md}{R:List Value→α→Prop}(g:Nat)(lb:Array Value)(eg:∀args w,(callFunc g args).run prog w= .ok (.enter g args) w)(p:α→Bool)(l:List α)(ao:Option Addr)(cap:Nat)(w:World)(h:Sl A w 2 R ao cap l)(hp:MK prog g lb R p l w):
 Calls prog 122 #[.slice ao l.length cap,.func (.func g) #[] lb] w fun e w'=>e= .returned (.bool (l.any p))∧cW w w':=by
 have hc:=DO g lb eg p l ao cap w h hp;have ha:=Hy p l;obtain⟨r,hr⟩:∃r,r=nS p l:=⟨_,rfl⟩;rw[←hr]at hc ha;rw[←ha];clear hr ha h hp;replace hc:=Xk hc;go_enter func122,ntmps122
 go_wp2_with fail
 refine hc.out.mono ?_;rintro e w1 ⟨rfl,oh⟩;go_wp2_with fail
 go_ret
 exact⟨rfl,oh⟩
end
section
open Go.Proofs
theorem Qg {A:md}(v:Pfx)(l:List Pfx)(ao:Option Addr)(cap:Nat)(w:World)(h:Sl A w 2 Pfx.R ao cap l):
 Calls prog 376 #[.slice ao l.length cap,.agg #[.int .i64 v.at_,.int .i64 v.len]] w fun e w'=>e= .returned (.int .i64 (nS (fun x=>decide (v=x)) l))∧cW w w':=by
 have gA:=h.cap_le;have Ki:=h.cap_max;obtain⟨r,hr⟩:∃r,r=nS (fun x=>decide (v=x)) l:=⟨_,rfl⟩;rw[←hr];replace hr:=Xk hr;go_enter func376,ntmps376
 go_wp2_with fail
 go_loopw [5,8] (fun _ s8 wr=>∃k:Nat,k≤l.length∧s8= .int .i64 k∧Hid (∀j (h:j < k) (h':j < l.length),decide (v=l[j])=false)∧cW (w.alloc (.cells #[.int .i64 v.at_,.int .i64 v.len] 23)) wr) (fun _ s8 _=>l.length - (intOf s8).toNat)
 case atStart=>exact⟨0,XL _,rfl,Xk (fun j hj=>absurd hj (YT _)),Below.refl _ _⟩
 case round=>
  obtain⟨k,hk,rfl,bK,hx⟩:=hrel;by_cases hlt:k < l.length
  ·have ec:(k:Int) < (l.length:Int):=by omega
   obtain⟨b,off,cs,rfl,-,aT,hR,ly⟩:=h.elem k hlt;replace ly:=fK hx (fK (au _ _) ly);unfold Pfx.R at hR;subst hR;obtain⟨k0,k1⟩:=mI ly;have p0:wr.cell? ⟨w.heap.size,0,none⟩=some (.int .i64 v.at_):=cP hx (by simp);have p1:wr.cell? ⟨w.heap.size,1,none⟩=some (.int .i64 v.len):=cP hx (by simp);have lb:=dn k0;have lp:=dn p0;obtain⟨y,hy⟩:∃y,y=l[k]:=⟨_,rfl⟩;rw[←hy]at k0 k1;replace hy:=Xk hy;clear ly h;by_cases e0:v.at_=y.at_
   ·by_cases e1:v.len=y.len
    ·have he:decide (v=y)=true:=by simp;cases v;cases y;simp_all
     replace he:=Xk he;go_wp2_with fail
     refine cu (by kernel_rfl) (by kernel_rfl) (fun _ _ d _ _ h=>by cases d<;>exact h) ?_;repeat(first|((first|refine bA rfl rfl rfl (by with_reducible rfl) ?_|refine bB rfl rfl rfl (by with_reducible rfl) ?_|refine bC rfl rfl rfl (by with_reducible rfl) ?_);simp only[Act.put,Xn,Xv,Xw])|(apply cj;(first|exact bp rfl|exact bE rfl rfl rfl (by with_reducible rfl));intro wq cE R hR;((have ee:=(aI cE).1;(try simp only[Xr,aa,Xu,Xs]at ee));go_simp;first|exact hR|(fail));simp only[Act.put,Xn,Xv,Xw]))
     refine ep ?_;intro w2 cI;obtain⟨d8,dX⟩:=aI cI;have d4:=bw cI;(try simp only[Xr,aa,Xu,Xs]at d8 dX d4)
     go_wp2_with fail
     go_ret
     exact⟨bM (by rw[hr.out];exact(Hw hlt (by rw[←hy.out];exact he.out) fun j hj=>bK.out j hj (by omega)).symm),ag (au _ _) (ag hx cI)⟩
    ·have he:decide (v=y)=false:=by simp;intro h;exact e1 (by rw[h])
     replace he:=Xk he;go_wp2_with fail
     refine cu (by kernel_rfl) (by kernel_rfl) (fun _ _ d _ _ h=>by cases d<;>exact h) ?_;repeat(first|((first|refine bA rfl rfl rfl (by with_reducible rfl) ?_|refine bB rfl rfl rfl (by with_reducible rfl) ?_|refine bC rfl rfl rfl (by with_reducible rfl) ?_);simp only[Act.put,Xn,Xv,Xw])|(apply cj;(first|exact bp rfl|exact bE rfl rfl rfl (by with_reducible rfl));intro wq cE R hR;((have ee:=(aI cE).1;(try simp only[Xr,aa,Xu,Xs]at ee));go_simp;first|exact hR|(fail));simp only[Act.put,Xn,Xv,Xw]))
     refine ep ?_;intro w2 cI;obtain⟨d8,dX⟩:=aI cI;have d4:=bw cI;(try simp only[Xr,aa,Xu,Xs]at d8 dX d4)
     go_wp2_with fail
     go_roundw
     case rel=>exact⟨k+1,by omega,by go_num,Xk (fun j hj hj'=>by
      rcases _j (_l hj)with h1|h1
      ·exact bK.out j h1 hj'
      ·subst h1;rw[←hy.out];exact he.out),ag hx cI⟩
     case measure=>simp[intOf];omega
   ·have he:decide (v=y)=false:=by simp;intro h;exact e0 (by rw[h])
    replace he:=Xk he;go_wp2_with fail
    refine cu (by kernel_rfl) (by kernel_rfl) (fun _ _ d _ _ h=>by cases d<;>exact h) ?_;repeat(first|((first|refine bA rfl rfl rfl (by with_reducible rfl) ?_|refine bB rfl rfl rfl (by with_reducible rfl) ?_|refine bC rfl rfl rfl (by with_reducible rfl) ?_);simp only[Act.put,Xn,Xv,Xw])|(apply cj;(first|exact bp rfl|exact bE rfl rfl rfl (by with_reducible rfl));intro wq cE R hR;((have ee:=(aI cE).1;(try simp only[Xr,aa,Xu,Xs]at ee));go_simp;first|exact hR|(fail));simp only[Act.put,Xn,Xv,Xw]))
    refine ep ?_;intro w2 cI;obtain⟨d8,dX⟩:=aI cI;have d4:=bw cI;(try simp only[Xr,aa,Xu,Xs]at d8 dX d4)
    go_wp2_with fail
    go_roundw
    case rel=>exact⟨k+1,by omega,by go_num,Xk (fun j hj hj'=>by
     rcases _j (_l hj)with h1|h1
     ·exact bK.out j h1 hj'
     ·subst h1;rw[←hy.out];exact he.out),ag hx cI⟩
    case measure=>simp[intOf];omega
  ·have ec:¬(k:Int) < (l.length:Int):=by omega
   obtain rfl:k=l.length:=by omega
   go_wp2_with fail
   go_ret
   exact⟨bM (by rw[hr.out];exact(DN fun j hj=>bK.out j hj hj).symm),ag (au _ _) hx⟩
theorem FU {A:md}(v:Pfx)(l:List Pfx)(ao:Option Addr)(cap:Nat)(w:World)(h:Sl A w 2 Pfx.R ao cap l):
 Calls prog 365 #[.slice ao l.length cap,.agg #[.int .i64 v.at_,.int .i64 v.len]] w fun e w'=>e= .returned (.bool (l.contains v))∧cW w w':=by
 have hc:=fun W (h:Sl A W 2 Pfx.R ao cap l)=>Qg v l ao cap W h;have ha:=Hy (fun x=>decide (v=x)) l;have hb:l.contains v=l.any (fun x=>decide (v=x)):=by
  rw[Yl];simp
 rw[←hb]at ha;obtain⟨r,hr⟩:∃r,r=nS (fun x=>decide (v=x)) l:=⟨_,rfl⟩;rw[←hr]at ha;simp only[←hr]at hc;rw[←ha];clear hr ha hb;replace hc:=Xk hc;go_enter func365,ntmps365
 go_wp2_with fail
 refine(hc.out _ (h.ext (au _ _))).mono ?_;rintro e w1 ⟨rfl,oh⟩;go_wp2_with fail
 go_ret
 exact⟨rfl,ag (au _ _) oh⟩
end
structure EX (lo hi:Nat)(w w':World):Prop where
 os:w'.os=w.os
 tape:w'.tape=w.tape
 output:w'.output=w.output
 size:w.heap.size≤w'.heap.size
 block:∀b,b < w.heap.size→(b < lo∨hi≤b)→w'.heap[b]? =w.heap[b]?
 there:∀b o,b < w.heap.size→(w.cell? ⟨b,o,none⟩).isSome=true→(w'.cell? ⟨b,o,none⟩).isSome=true
 free:∀b o,b < w.heap.size→w'.frozen? ⟨b,o,none⟩=w.frozen? ⟨b,o,none⟩
theorem EX.refl {lo hi:Nat}(w:World):EX lo hi w w:=⟨rfl,rfl,rfl,XC _,fun _ _ _=>rfl,fun _ _ _ h=>h,fun _ _ _=>rfl⟩
theorem EX.trans {lo hi:Nat}{a b c:World}(h:EX lo hi a b)(k:EX lo hi b c):EX lo hi a c:=
 ⟨k.os.trans h.os,k.tape.trans h.tape,k.output.trans h.output,Yu h.size k.size,fun i hi hx=>(k.block i (Yt hi h.size) hx).trans (h.block i hi hx),
  fun i o hi hs=>k.there i o (Yt hi h.size) (h.there i o hi hs),fun i o hi=>(k.free i o (Yt hi h.size)).trans (h.free i o hi)⟩
theorem EX.of {lo hi:Nat}{w w':World}(h:cW w w'):EX lo hi w w':=
 ⟨h.os,h.tape,h.output,h.size,fun b hb _=>h.block b hb,fun b o hb hs=>by rw[(aI h).1 b o hb];exact hs,fun b o hb=>(aI h).2 b o hb⟩
theorem EX.mono {lo hi lo' hi':Nat}{w w':World}(h1:lo≤lo')(h2:hi'≤hi)(h:EX lo' hi' w w'):EX lo hi w w':=
 ⟨h.os,h.tape,h.output,h.size,fun b hb hx=>h.block b hb (by omega),h.there,h.free⟩
theorem EX.cell {lo hi:Nat}{w w':World}(h:EX lo hi w w'){b o:Nat}(hb:b < w.heap.size)(hx:b < lo∨hi≤b):w'.cell? ⟨b,o,none⟩=w.cell? ⟨b,o,none⟩:=
 Zn (w:=w) (h.block b hb hx)
theorem EX.setCell {lo hi:Nat}{w w':World}(h:EX lo hi w w'){b o:Nat}(h1:lo≤b)(h2:b < hi)(v:Value):EX lo hi w (w'.setCell ⟨b,o,none⟩ v):=by
 refine⟨h.os,h.tape,h.output,by rw[aa];exact h.size,fun i hi hx=>(dU v (by show b≠i;omega)).trans (h.block i hi hx),fun i j hi hs=>?_,fun i j hi=>?_⟩
 ·have h3:=h.there i j hi hs;obtain⟨u,hu⟩:=Zy.1 h3;obtain⟨u',hu'⟩:=cell?_setCell_some (w:=w') (p:=⟨b,o,none⟩) (x:=v) (q:=⟨i,j,none⟩) (v:=u) hu;rw[hu'];rfl
 ·rw[World.frozen?_setCell];exact h.free i j hi
theorem EX.drew {lo hi:Nat}{w w':World}(h:EX lo hi w w'):EX lo hi w w'.drew:=h.trans (EX.of ((Below.refl _ _).drew))
theorem EX.bel {lo hi B:Nat}{a w w':World}(h:Bel B a w)(hx:EX lo hi w w')(hB:B≤lo):Bel B a w':=
 ⟨h.bel.trans ⟨hx.os,hx.tape,hx.output,hx.size,fun k hk=>hx.block k (Yt hk h.le) (.inl (Yt hk hB))⟩,Yu h.le hx.size⟩
theorem EX.some {lo hi:Nat}{w w':World}(h:EX lo hi w w'){b o:Nat}{v:Value}(hc:w.cell? ⟨b,o,none⟩=some v):∃u,w'.cell? ⟨b,o,none⟩=some u:=by
 have:=h.there b o (dn hc) (by rw[hc];rfl);exact Zy.1 this
theorem EK {lo hi:Nat}{w w':World}(h:EX lo hi w w')(hl:lo≤w.heap.size):∀b o,b < lo→w'.cell? ⟨b,o,none⟩=w.cell? ⟨b,o,none⟩:=fun b o hb=>h.cell (by omega) (.inl hb)
theorem EX.hi {lo hi:Nat}{w w':World}(h:EX lo hi w w'):∀b o,hi≤b→b < w.heap.size→w'.cell? ⟨b,o,none⟩=w.cell? ⟨b,o,none⟩:=fun b o hb h2=>h.cell h2 (.inr hb)
section
variable {P:Program}{ops:Array Oper}{Q:Exit→Act→World→Prop}
def GX (P:Program)(ops:Array Oper)(Q:Exit→Act→World→Prop):Nat→Array Bool→Act→Nat→Nat→World→Prop
 |0,listed,a,lo,hi,W=>Region.ready .any ops listed=[]∧∀w,EX lo hi W w→Q .normal a w
 |fuel+1,listed,a,lo,hi,W=>∀w,EX lo hi W w→(Region.ready .any ops listed=[]→Q .normal a w)∧
  ∀i∈Region.ready .any ops listed,wpOp P ops Q i (fun a' w'=>EX lo hi w w'∧∃lo' hi',lo≤lo'∧hi'≤hi∧GX P ops Q fuel (listed.setIfInBounds i true) a' lo' hi' w') a w
theorem GX.world:∀{fuel:Nat}{listed:Array Bool}{a:Act}{lo hi:Nat}{W W':World},EX lo hi W W'→GX P ops Q fuel listed a lo hi W→GX P ops Q fuel listed a lo hi W'
 |0,_,_,_,_,_,_,hx,h=>⟨h.1,fun w hw=>h.2 w (hx.trans hw)⟩
 |_+1,_,_,_,_,_,_,hx,h=>fun w hw=>h w (hx.trans hw)
theorem GX.any:∀{fuel:Nat}{listed:Array Bool}{a:Act}{lo hi:Nat}{W:World},GX P ops Q fuel listed a lo hi W→wpAny P .any ops Q fuel listed a W
 |0,_,_,_,_,_,h=>⟨h.1,h.2 _ (EX.refl _)⟩
 |_+1,_,_,_,_,W,h=>⟨(h W (EX.refl _)).1,fun i hi=>wpOp_mono (fun _ _ ⟨_,_,_,_,_,h'⟩=>GX.any h') ((h W (EX.refl _)).2 i hi)⟩
def QX (P:Program)(ops:Array Oper)(lo hi:Nat)(W:World)(o:Oper)(v:Value)(a:Act):Prop:=
 (Region.wanted o (yielded ops a.tmps)=true∧∀w,EX lo hi W w→o.quietAt P a (cW w) w v)∨
 (Region.wanted o (yielded ops a.tmps)=false∧v=undef)
theorem QX.world {lo hi lo' hi':Nat}{W W':World}{o:Oper}{v:Value}{a:Act}(h1:lo≤lo')(h2:hi'≤hi)(hx:EX lo hi W W')(h:QX P ops lo hi W o v a):QX P ops lo' hi' W' o v a:=
 h.imp (fun⟨g1,g2⟩=>⟨g1,fun w hw=>g2 w (hx.trans (hw.mono h1 h2))⟩) id
theorem QX.of_same {lo hi:Nat}{W:World}{o:Oper}{v:Value}{a a':Act}(hy:QX P ops lo hi W o v a)(he:execOp a'.eval o=execOp a.eval o)
 (hw:Region.wanted o (yielded ops a'.tmps)=Region.wanted o (yielded ops a.tmps)):QX P ops lo hi W o v a':=by
 unfold QX Oper.quietAt at*;rw[he,hw];exact hy
theorem QX.wpOp {lo hi:Nat}{W:World}{i:Nat}{o:Oper}{v:Value}{a:Act}(hi':ops[i]? =some o)(hy:QX P ops lo hi W o v a){K:Act→World→Prop}{w:World}(hw:EX lo hi W w)(h:∀w',cW w w'→K (a.put o.dst v) w'):wpOp P ops Q i K a w:=by
 unfold Go.wpOp;simp only[hi'];rcases hy with⟨B7,hv⟩|⟨B7,rfl⟩
 ·simp only[B7,if_true];left;have h3:=hv w hw;unfold Oper.quietAt at h3;unfold Oper.wp;generalize (execOp a.eval o).run P w=r at*;cases r with
  |ok n w'=>
   cases n<;>simp only[Oper.quietUpon]at h3<;>simp only[Oper.upon]
   case value u=>
    obtain⟨e1,e2⟩:=h3;rw[e1,e2];exact h _ (Below.refl _ _)
   case skip=>
    obtain⟨e1,e2⟩:=h3;rw[e1,←e2];exact h _ (Below.refl _ _)
   case enter f args=>
    obtain⟨e1,hc⟩:=h3;rw[e1];exact hc.mono fun e w'' ⟨he,hw''⟩=>by subst he;exact h _ hw''
  |halt x w'=>simp only[Oper.quietUpon]at h3
 ·simp only[B7,YY,if_false];exact h w (Below.refl _ _)
theorem Js {lo hi:Nat}{W:World}{j:Nat}{oi oj:Oper}{v:Value}(hj:ops[j]? =some oj)(Wa:oi.apart ops oj=true)
 (Km:∀cs b,oi.op≠ .select cs b) (Sx:∀cs b,oj.op≠ .select cs b)
 (hQ:∀c a w,Q (.panic c) (a.put oi.dst v) w→Q (.panic c) a w) {K:Act→World→Prop}{a:Act}{w:World}
 (hy:QX P ops lo hi W oi v a) (h:wpOp P ops Q j K (a.put oi.dst v) w):
 wpOp P ops Q j (fun a' w'=>QX P ops lo hi W oi v a'∧K (a'.put oi.dst v) w') a w:=by
 obtain⟨h1,h2,h3⟩:=Oper.apart_spec Wa;have keep:∀(a:Act),QX P ops lo hi W oi v a→∀u,QX P ops lo hi W oi v (a.put oj.dst u):=fun a hy u=>
  hy.of_same (execOp_put oi Km a oj.dst u h3) (wanted_put oi a oj.dst u h3)
 have keepD:∀d,QX P ops lo hi W oi v {a with defers:=d::a.defers}:=fun d=>hy.of_same rfl rfl;unfold wpOp at*;simp only[hj]at*;rw[wanted_put oj a oi.dst v h1]at h;split
 ·rename_i hw;simp only[hw,if_true]at h;rcases h with h|⟨uH,EW⟩
  case inr=>exact .inr ⟨by unfold Oper.asks at*;rw[execOp_put oj Sx a oi.dst v h1]at uH;exact uH,EW⟩
  refine .inl ?_;unfold Oper.wp at*;rw[execOp_put oj Sx a oi.dst v h1]at h;generalize (execOp a.eval oj).run P w=r at*;cases r with
  |ok n w'=>
   cases n<;>simp only[Oper.upon]at h ⊢
   case value u=>exact⟨keep a hy u,by rw[←Act.put_comm a v u h2];exact h⟩
   case skip=>exact⟨keep a hy _,by rw[←Act.put_comm a v undef h2];exact h⟩
   case defer d=>
    refine⟨keep _ (keepD d) _,?_⟩;rw[←Act.put_comm _ v undef h2,←Act.put_defers];exact h
   case enter f args=>
    refine Calls.mono h fun e w'' he=>?_;cases e with
    |returned u=>exact⟨keep a hy u,by rw[←Act.put_comm a v u h2];exact he⟩
    |panicked c=>exact hQ _ _ _ he
    |outgrown=>exact he
   case row row args=>exact Rows.mono h fun u w'' he=>⟨keep a hy u,by rw[←Act.put_comm a v u h2];exact he⟩
  |halt x w'=>
   cases x<;>simp only[Oper.upon]at h ⊢
   case panic u=>exact hQ _ _ _ h
 ·rename_i hw;simp only[hw]at h;exact⟨keep a hy _,by rw[←Act.put_comm a v undef h2];exact h⟩
theorem ML {i:Nat}{oi:Oper}{v:Value}(Kq:ops[i]? =some oi)(EY:∀(j:Nat) (o:Oper) cs b,ops[j]? =some o→o.op≠ .select cs b)
 (hQ:∀c a w,Q (.panic c) (a.put oi.dst v) w→Q (.panic c) a w):
 ∀(fuel:Nat) (listed:Array Bool) (a:Act) (lo hi:Nat) (W:World),
  (∀j oj,ops[j]? =some oj→j≠i→listed.getD j true=false→(∀e∈oj.after,Region.binds .any e=true→e.on≠i)→oi.apart ops oj=true)→
  i∈Region.ready .any ops listed→QX P ops lo hi W oi v a→
  GX P ops Q fuel (listed.setIfInBounds i true) (a.put oi.dst v) lo hi W→GX P ops Q (fuel+1) listed a lo hi W:=by
 intro fuel;induction fuel with
 |zero=>
  intro listed a lo hi W _ hr hy H w hw;refine⟨fun h=>(by rw[h]at hr;cases hr),fun j hj=>?_⟩;by_cases lx:j=i
  ·subst lx;exact hy.wpOp Kq hw fun w' hw'=>⟨EX.of hw',lo,hi,XC _,XC _,H.world (hw.trans (EX.of hw'))⟩
  ·have:=ready_mono hj lx;rw[H.1]at this;cases this
 |succ fuel ih=>
  intro listed a lo hi W uI hr hy H w hw;refine⟨fun h=>(by rw[h]at hr;cases hr),fun j hj=>?_⟩;by_cases lx:j=i
  ·subst lx;exact hy.wpOp Kq hw fun w' hw'=>⟨EX.of hw',lo,hi,XC _,XC _,H.world (hw.trans (EX.of hw'))⟩
  ·have h1:=(H w hw).2 j (ready_mono hj lx);obtain⟨EZ,oj,OD,bK⟩:=mem_ready.1 hj;have OE:∀e∈oj.after,Region.binds .any e=true→e.on≠i:=fun e he hb heq=>by
    have h1:=bK e he hb;have h0:=(mem_ready.1 hr).1;rw[heq]at h1;rcases XO i listed.size with h'|h'
    ·simp[h']at h0 h1;rw[h0]at h1;cases h1
    ·simp[Yj h']at h1
   have h2:=Js OD (uI j oj OD lx EZ OE) (fun cs b=>EY i oi cs b Kq) (fun cs b=>EY j oj cs b OD) hQ (hy.world (XC _) (XC _) hw) h1;have xY:∀k ok,ops[k]? =some ok→k≠i→(listed.setIfInBounds j true).getD k true=false→
    (∀e∈ok.after,Region.binds .any e=true→e.on≠i)→oi.apart ops ok=true:=fun k ok hk OF Sy cB=>by
    refine uI k ok hk OF ?_ cB;by_cases BT:j=k
    ·subst BT;exact EZ
    ·rw[getD_set_ne true BT]at Sy;exact Sy
   refine wpOp_mono (fun a' w' ⟨h3,h4,lo',hi',h5,h6,h7⟩=>⟨h4,lo',hi',h5,h6,ih (listed.setIfInBounds j true) a' lo' hi' w' xY (ready_mono hr (Ne.symm lx)) (h3.world h5 h6 h4) ?_⟩) h2;rw[Array.setIfInBounds_comm _ _ lx];exact h7
def jt (P:Program)(ops:Array Oper)(Q:Exit→Act→World→Prop):List Oper→Nat→Array Bool→Act→Nat→Nat→World→Prop
 |[],_,_,a,lo,hi,W=>∀w,EX lo hi W w→Q .normal a w
 |o::rest,k,listed,a,lo,hi,W=>
  (∃v,QX P ops lo hi W o v a∧jt P ops Q rest (k+1) (listed.setIfInBounds k true) (a.put o.dst v) lo hi W)∨
  (Region.ready .any ops listed=[k]∧Region.wanted o (yielded ops a.tmps)=true∧∀w,EX lo hi W w→o.wp P a w (fun a' w'=>EX lo hi w w'∧∃lo' hi',lo≤lo'∧hi'≤hi∧jt P ops Q rest (k+1) (listed.setIfInBounds k true) a' lo' hi' w') Q)
theorem tI (hs:Region.noSelect ops=true)(hQ:∀c a d v w,Q (.panic c) (a.put d v) w→Q (.panic c) a w):∀(l:List Oper) (k:Nat) (listed:Array Bool) (a:Act) (lo hi:Nat) (W:World),(∀j,l[j]? =ops[k+j]?)→
 Region.lexFrom .any ops l.length k listed=true→jt P ops Q l k listed a lo hi W→GX P ops Q l.length listed a lo hi W
 |[],_,_,_,_,_,_,_,hB,h=>⟨by simpa[Region.lexFrom]using hB,h⟩
 |o::l,k,listed,a,lo,hi,W,hl,hB,h=>by
  have h0:ops[k]? =some o:=by simpa using (hl 0).symm
  simp only[XD,Region.lexFrom,Xy]at hB;obtain⟨⟨hr,hf⟩,hB'⟩:=hB;have hl':∀j,l[j]? =ops[k+1+j]? :=fun j=>by have:=hl (j+1);simpa[Zd,Nat.add_comm 1 j]using this
  rcases h with⟨v,hy,hK⟩|⟨di,B7,hK⟩
  ·exact ML h0 (Region.noSelect_spec hs) (fun c a w=>hQ c a _ _ w) l.length listed a lo hi W (Region.free_spec h0 hf) (by simpa using hr) hy (tI hs hQ l (k+1) _ _ _ _ _ hl' hB' hK)
  ·intro w hw;refine⟨fun h=>by rw[di]at h;simp at h,fun i hi'=>?_⟩;rw[di]at hi';obtain rfl:i=k:=by simpa using hi'
   unfold wpOp;simp only[h0,B7,if_true];left;exact Oper.wp_mono (fun a' w' ⟨h1,lo',hi',h2,h3,h4⟩=>⟨h1,lo',hi',h2,h3,tI hs hQ l (i+1) _ _ _ _ _ hl' hB' h4⟩) (hK w hw)
theorem FV {id:Nat}{a:Act}{w:World}{l:List Oper}(lo hi:Nat)(hm:P.follows .mixedOrders=true)(hB:Region.lexB .any l.toArray=true)(hQ:∀c a d v w,Q (.panic c) (a.put d v) w→Q (.panic c) a w)
 (h:jt P l.toArray Q l 0 (Y9 l.length false) a lo hi w):(Code.region id l.toArray true).wp P Q a w:=by
 simp only[Region.lexB,Xy]at hB;refine wp_region_any hm ?_;have h2:=tI hB.1 hQ l 0 (Y9 l.length false) a lo hi w (by simp) (by simpa using hB.2) h;have h3:=(h2.world (EX.of ((Below.refl _ _).drew:cW w w.drew))).any;simpa using h3
section
variable {o:Oper}{rest:List Oper}{k lo hi:Nat}{listed:Array Bool}{a:Act}{W:World}
theorem Qh (h:∀w,EX lo hi W w→Q .normal a w):jt P ops Q [] k listed a lo hi W:=h
theorem wO (hw:Region.wanted o (yielded ops a.tmps)=false)(hn:jt P ops Q rest (k+1) (listed.setIfInBounds k true) (a.put o.dst undef) lo hi W):jt P ops Q (o::rest) k listed a lo hi W:=
 .inl ⟨undef,.inr ⟨hw,rfl⟩,hn⟩
theorem wP {j d:Nat}{v:Value}(hg:o.guard=some (j,true))(hd:(ops[j]?).bind (·.dst)=some d)(hv:a.tmps.toList[d]? =some v)(hb:v= .bool false)(hn:jt P ops Q rest (k+1) (listed.setIfInBounds k true) (a.put o.dst undef) lo hi W):jt P ops Q (o::rest) k listed a lo hi W:=
 wO (by simp[Region.wanted,hg,fA hd hv hb]) hn
theorem wQ {j d:Nat}{v:Value}(hg:o.guard=some (j,false))(hd:(ops[j]?).bind (·.dst)=some d)(hv:a.tmps.toList[d]? =some v)(hb:v= .bool true)(hn:jt P ops Q rest (k+1) (listed.setIfInBounds k true) (a.put o.dst undef) lo hi W):jt P ops Q (o::rest) k listed a lo hi W:=
 wO (by simp[Region.wanted,hg,fA hd hv hb]) hn
theorem wR {j d:Nat}{v:Value}{b:Bool}(hg:o.guard=some (j,b))(hd:(ops[j]?).bind (·.dst)=some d)(hv:a.tmps.toList[d]? =some v)(hb:v=undef)(hn:jt P ops Q rest (k+1) (listed.setIfInBounds k true) (a.put o.dst undef) lo hi W):jt P ops Q (o::rest) k listed a lo hi W:=
 wO (by simp[Region.wanted,hg,m6 hd hv hb]) hn
theorem DP {v:Value}(hw:Region.wanted o (yielded ops a.tmps)=true)(h:∀w,EX lo hi W w→∀R:Value→Prop,R v→UJ P w w R ((execOp a.eval o).run P w))
 (hn:jt P ops Q rest (k+1) (listed.setIfInBounds k true) (a.put o.dst v) lo hi W):jt P ops Q (o::rest) k listed a lo hi W:=
 .inl ⟨v,.inl ⟨hw,fun w hw=>sO (h w hw)⟩,hn⟩
theorem zW (hr:Region.ready .any ops listed=[k])(hw:Region.wanted o (yielded ops a.tmps)=true)
 (h:∀w,EX lo hi W w→∀K:Act→World→Prop,(∀a' w' lo' hi',lo≤lo'→hi'≤hi→EX lo hi w w'→jt P ops Q rest (k+1) (listed.setIfInBounds k true) a' lo' hi' w'→K a' w')→o.wp P a w K Q):jt P ops Q (o::rest) k listed a lo hi W:=
 .inr ⟨hr,hw,fun w hw=>h w hw _ fun _ _ lo' hi' g1 g2 h1 h2=>⟨h1,lo',hi',g1,g2,h2⟩⟩
end
end
section
open Go.Proofs
theorem Th (a l:Int)(h:bq a l=true)(hl:l < 16):bits .or .i64 a (FA (l+1)+1)=a+gh (l+1):=by
 obtain⟨g1,g2,g3,g4,g5⟩:=dx h;obtain⟨n,rfl⟩:=ZE g3;have e1:FA (l+1)+1=((2 ^ (16 - (l+1)).toNat:Nat):Int):=by simp[FA]
 have e2:gh (l+1)=((2 ^ (16 - (l+1)).toNat:Nat):Int):=by simp[gh]
 obtain⟨k,hk⟩:∃k,k=(16 - (l+1)).toNat:=⟨_,rfl⟩;have e3:(16 - l).toNat=k+1:=by omega
 rw[e1,e2,←hk];have a0u:k≤15:=by omega
 have hp:2 ^ k≤2 ^ 15:=Nat.pow_le_pow_right (by omega) a0u;have g6:n % 2 ^ (k+1)=0:=by
  unfold gh at g5;rw[e3]at g5;exact_mod_cast g5
 have hn:n=2 ^ (k+1)*(n / 2 ^ (k+1)):=by have:=ZT n (2 ^ (k+1));omega
 have hor:n|||2 ^ k=n+2 ^ k:=by
  rw[hn];exact(Nat.two_pow_add_eq_or_of_lt (Nat.pow_lt_pow_right (by omega) (by omega)) _).symm
 show IntKind.i64.wrap ((BitVec.ofInt 64 (n:Int)|||BitVec.ofInt 64 ((2 ^ k:Nat):Int)).toNat:Int)=_;rw[BitVec.toNat_or,ki n (by omega),ki _ (by omega),hor,IntKind.wrap_i64];omega
def zX:Value:= .agg #[.int .i64 0,.int .i64 0]
def pG (a l:Int):Value:=
 if chk a l=0 then (if l=16 then .tuple #[zX,zX,.int .i64 3]else .tuple #[.agg #[.int .i64 a,.int .i64 (l+1)],.agg #[.int .i64 (a+gh (l+1)),.int .i64 (l+1)],.int .i64 0])
 else .tuple #[zX,zX,.int .i64 (chk a l)]
theorem wS (a l:Int)(w:World):
 Calls prog 364 #[.agg #[.int .i64 a,.int .i64 l]] w fun e w'=>e= .returned (pG a l)∧cW w w':=by
 have hc:=pA a l;unfold pG zX;by_cases h0:chk a l=0
 ·have hR:bq a l=true:=by simp[bq,h0]
  obtain⟨g1,g2,g3,g4,g5⟩:=dx hR;rw[if_pos h0];rw[h0]at hc;replace hc:=Xk hc;clear h0;by_cases UV:l=16
  ·rw[if_pos UV];have a0v:(l==16)=true:=by simp[UV]
   clear UV;go_enter func364,ntmps364
   go_wp2_with fail
   refine(hc.out _).mono ?_;rintro e w1 ⟨rfl,bV⟩;obtain⟨bR,bW⟩:=aI bV;have ce:=bw bV;(try simp only[Xr,aa,Xu,Xs]at bR bW ce)
   go_wp2_with fail
   refine bodyPost_ret ?_ rfl ⟨rfl,Bel.bel (B:=_) ?_⟩
   ·simp[results,results364,go_sem,bR]
   ·(repeat(first|with_reducible assumption|with_reducible exact Bel.refl _|with_reducible refine Bel.alloc ?_ _|with_reducible refine Bel.drewN ?_ _|with_reducible refine Bel.drew ?_|(with_reducible refine ak ?_ ?_ _;rotate_left;(first|omega|(simp;done)|(simp;omega)))|(with_reducible refine Bel.setCell ?_ (p:=_) ?_ _;rotate_left;(first|(simp;done)|omega|(simp;omega)))|refine Bel.call ?_ (by assumption)|(refine EX.bel ?_ (by assumption) ?_;rotate_left;(first|omega|(simp;omega)))))
  ·rw[if_neg UV];have a0v:(l==16)=false:=by simp[UV]
   have hor:=Th a l hR (by omega);obtain⟨z1,z2⟩:=qJ (l+1) (by omega);have dW:IntKind.i64.wrap (FA (l+1)+1)=FA (l+1)+1:=IntWalk.i64_in _ (by omega);have hmk:=fun W=>oM (l+1) W (by omega) (by omega);replace hmk:=Xk hmk;clear UV;go_enter func364,ntmps364
   go_wp2_with fail
   refine(hc.out _).mono ?_;rintro e w1 ⟨rfl,bV⟩;obtain⟨bR,bW⟩:=aI bV;have ce:=bw bV;(try simp only[Xr,aa,Xu,Xs]at bR bW ce)
   have l1:w.heap.size < w1.heap.size:=by omega
   have l2:w.heap.size+1 < w1.heap.size:=by omega
   have l3:w.heap.size+1+1 < w1.heap.size:=by omega
   go_wp2_with fail
   refine FV (w.heap.size+1) (w.heap.size+3) (by kernel_rfl) (by kernel_rfl) (fun _ _ d _ _ h=>by cases d<;>exact h) ?_;repeat(first|((first|refine wP rfl rfl rfl (by with_reducible rfl) ?_|refine wQ rfl rfl rfl (by with_reducible rfl) ?_|refine wR rfl rfl rfl (by with_reducible rfl) ?_);simp only[Act.put,Xn,Xv,Xw])|(apply DP;(first|exact bp rfl|exact bE rfl rfl rfl (by with_reducible rfl));intro wq cE R hR;((have ee:=EK cE (by first|omega|(simp;omega)|(simp;done));have hcd:=EX.hi cE;(try simp only[Xr,aa,Xu,Xs]at ee hcd));go_simp;first|exact hR|((go_at_call 235;exact qL (hmk.out _) hR)));simp only[Act.put,Xn,Xv,Xw]))
   refine zW (by kernel_rfl) (by first|exact bp rfl|exact bE rfl rfl rfl (by with_reducible rfl)) (fun w2 cI K hK=>?_);have d4:=cI.size;have a0w:=EK cI (by first|omega|(simp;omega)|(simp;done));have a0x:=EX.hi cI;have dX:=cI.free;(try simp only[Xr,aa,Xu,Xs]at d4 a0w a0x dX)
   (try have l0w2:w.heap.size < w2.heap.size:=by omega)
   (try have l1w2:w.heap.size+1 < w2.heap.size:=by omega)
   (try have l2w2:w.heap.size+1+1 < w2.heap.size:=by omega)
   (try have l3w2:w.heap.size+1+1+1 < w2.heap.size:=by omega)
   obtain⟨u0w2,Wr⟩:=cI.some (b:=w.heap.size+1) (o:=0) (v:=_) (by go_simp;rfl);obtain⟨u1w2,Ws⟩:=cI.some (b:=w.heap.size+1) (o:=1) (v:=_) (by go_simp;rfl);go_simp
   refine hK _ _ (w.heap.size+2) (w.heap.size+3) (by omega) (by omega) (by repeat(first|exact EX.refl _|refine EX.setCell ?_ (by omega) (by omega) _)) ?_;clear hK K;obtain⟨v0,Ot⟩:=cI.some (b:=w.heap.size+1+1) (o:=0) (v:=_) (by go_simp;rfl);obtain⟨v1,sK⟩:=cI.some (b:=w.heap.size+1+1) (o:=1) (v:=_) (by go_simp;rfl);refine zW (by kernel_rfl) (by first|exact bp rfl|exact bE rfl rfl rfl (by with_reducible rfl)) (fun w3 pP K hK=>?_);have GL:=pP.size;have Wt:=EK pP (by first|omega|(simp;omega)|(simp;done));have a0y:=EX.hi pP;have E0:=pP.free;(try simp only[Xr,aa,Xu,Xs]at GL Wt a0y E0)
   (try have l0w3:w.heap.size < w3.heap.size:=by omega)
   (try have l1w3:w.heap.size+1 < w3.heap.size:=by omega)
   (try have l2w3:w.heap.size+1+1 < w3.heap.size:=by omega)
   (try have l3w3:w.heap.size+1+1+1 < w3.heap.size:=by omega)
   obtain⟨u0w3,Wu⟩:=pP.some (b:=w.heap.size+1+1) (o:=0) (v:=_) (by go_simp;rfl);obtain⟨u1w3,Wv⟩:=pP.some (b:=w.heap.size+1+1) (o:=1) (v:=_) (by go_simp;rfl);go_simp
   refine hK _ _ (w.heap.size+3) (w.heap.size+3) (by omega) (by omega) (by repeat(first|exact EX.refl _|refine EX.setCell ?_ (by omega) (by omega) _)) ?_;clear hK K;repeat(first|((first|refine wP rfl rfl rfl (by with_reducible rfl) ?_|refine wQ rfl rfl rfl (by with_reducible rfl) ?_|refine wR rfl rfl rfl (by with_reducible rfl) ?_);simp only[Act.put,Xn,Xv,Xw])|(apply DP;(first|exact bp rfl|exact bE rfl rfl rfl (by with_reducible rfl));intro wq cE R hR;((have ee:=EK cE (by first|omega|(simp;omega)|(simp;done));have hcd:=EX.hi cE;(try simp only[Xr,aa,Xu,Xs]at ee hcd));go_simp;first|exact hR|(fail));simp only[Act.put,Xn,Xv,Xw]))
   refine Qh ?_;intro w4 OJ;have a0z:=OJ.size;have Ww:=EK OJ (by first|omega|(simp;omega)|(simp;done));have a0A:=EX.hi OJ;have a0B:=OJ.free;(try simp only[Xr,aa,Xu,Xs]at a0z Ww a0A a0B)
   (try have l0w4:w.heap.size < w4.heap.size:=by omega)
   (try have l1w4:w.heap.size+1 < w4.heap.size:=by omega)
   (try have l2w4:w.heap.size+1+1 < w4.heap.size:=by omega)
   (try have l3w4:w.heap.size+1+1+1 < w4.heap.size:=by omega)
   go_wp2_with fail
   refine bodyPost_ret ?_ rfl ⟨rfl,Bel.bel (B:=_) ?_⟩
   ·simp[results,results364,go_sem,Ww,Wt,Wr,Ws,Wu,Wv]
   ·(repeat(first|with_reducible assumption|with_reducible exact Bel.refl _|with_reducible refine Bel.alloc ?_ _|with_reducible refine Bel.drewN ?_ _|with_reducible refine Bel.drew ?_|(with_reducible refine ak ?_ ?_ _;rotate_left;(first|omega|(simp;done)|(simp;omega)))|(with_reducible refine Bel.setCell ?_ (p:=_) ?_ _;rotate_left;(first|(simp;done)|omega|(simp;omega)))|refine Bel.call ?_ (by assumption)|(refine EX.bel ?_ (by assumption) ?_;rotate_left;(first|omega|(simp;omega)))))
 ·rw[if_neg h0];replace h0:(chk a l !=0)=true:=by simpa using h0
  obtain⟨r,hr⟩:∃r,r=chk a l:=⟨_,rfl⟩;rw[←hr]at hc h0 ⊢;clear hr;replace hc:=Xk hc;go_enter func364,ntmps364
  go_wp2_with fail
  refine(hc.out _).mono ?_;rintro e w1 ⟨rfl,bV⟩;obtain⟨bR,bW⟩:=aI bV;have ce:=bw bV;(try simp only[Xr,aa,Xu,Xs]at bR bW ce)
  go_wp2_with fail
  refine bodyPost_ret ?_ rfl ⟨rfl,Bel.bel (B:=_) ?_⟩
  ·simp[results,results364,go_sem,bR]
  ·(repeat(first|with_reducible assumption|with_reducible exact Bel.refl _|with_reducible refine Bel.alloc ?_ _|with_reducible refine Bel.drewN ?_ _|with_reducible refine Bel.drew ?_|(with_reducible refine ak ?_ ?_ _;rotate_left;(first|omega|(simp;done)|(simp;omega)))|(with_reducible refine Bel.setCell ?_ (p:=_) ?_ _;rotate_left;(first|(simp;done)|omega|(simp;omega)))|refine Bel.call ?_ (by assumption)|(refine EX.bel ?_ (by assumption) ?_;rotate_left;(first|omega|(simp;omega)))))
end
section
open Go.Proofs
theorem FW (b:Nat)(p q:Pfx)(w:World)(h0:w.cell? ⟨b,0,none⟩=some (.int .i64 p.at_))(h1:w.cell? ⟨b,1,none⟩=some (.int .i64 p.len)):
 Calls prog 375 #[.agg #[.int .i64 q.at_,.int .i64 q.len],.pointer (some ⟨b,0,none⟩)] w fun e w'=>e= .returned (.bool (p.meets q))∧cW w w':=by
 have hlt:=dn h0;have hm:=zQ p.at_ p.len q.at_ q.len;obtain⟨r,hr⟩:∃r,r=p.meets q:=⟨_,rfl⟩;unfold Pfx.meets at hr;rw[←hr]at hm;unfold Pfx.meets;rw[←hr];clear hr;replace hm:=Xk hm;go_enter func375,ntmps375
 go_wp2_with fail
 refine(hm.out _).mono ?_;rintro e w1 ⟨rfl,bV⟩;obtain⟨bR,bW⟩:=aI bV;have ce:=bw bV;(try simp only[Xr,aa,Xu,Xs]at bR bW ce)
 go_wp2_with fail
 go_ret
 refine⟨rfl,Bel.bel (B:=_) ?_⟩;(repeat(first|with_reducible assumption|with_reducible exact Bel.refl _|with_reducible refine Bel.alloc ?_ _|with_reducible refine Bel.drewN ?_ _|with_reducible refine Bel.drew ?_|(with_reducible refine ak ?_ ?_ _;rotate_left;(first|omega|(simp;done)|(simp;omega)))|(with_reducible refine Bel.setCell ?_ (p:=_) ?_ _;rotate_left;(first|(simp;done)|omega|(simp;omega)))|refine Bel.call ?_ (by assumption)|(refine EX.bel ?_ (by assumption) ?_;rotate_left;(first|omega|(simp;omega)))))
theorem FX (b:Nat)(p:Pfx)(us:List Pfx)(w:World)(h0:w.cell? ⟨b,0,none⟩=some (.int .i64 p.at_))(h1:w.cell? ⟨b,1,none⟩=some (.int .i64 p.len)):
 MK prog 375 #[.pointer (some ⟨b,0,none⟩)] Pfx.R (fun q=>p.meets q) us w:=by
 intro W hW x _ cs hR;unfold Pfx.R at hR;subst hR;exact FW b p x W (cP hW h0) (cP hW h1)
theorem kV {A:md}(us:List Pfx)(uo:Option Addr)(ucap:Nat)(p:Pfx)(w:World)(h:Sl A w 2 Pfx.R uo ucap us):
 Calls prog 363 #[.slice uo us.length ucap,.agg #[.int .i64 p.at_,.int .i64 p.len]] w fun e w'=>e= .returned (.bool (us.any fun q=>p.meets q))∧cW w w':=by
 have hc:=fun W (hs:Sl A W 2 Pfx.R uo ucap us) h0 h1=>wN 375 #[.pointer (some ⟨w.heap.size,0,none⟩)] (enters_of func375 (by kernel_rfl) rfl) (fun q=>p.meets q) us uo ucap W hs (FX w.heap.size p us W h0 h1);obtain⟨r,hr⟩:∃r,r=us.any fun q=>p.meets q:=⟨_,rfl⟩;rw[←hr]at hc ⊢;clear hr;replace hc:=Xk hc;go_enter func363,ntmps363
 go_wp2_with fail
 refine(hc.out _ (h.ext (au _ _)) (by simp) (by simp)).mono ?_;rintro e w1 ⟨rfl,oh⟩;go_wp2_with fail
 go_ret
 exact⟨rfl,ag (au _ _) oh⟩
end
section
open Go.Proofs Go.Shelf
attribute [local go_sem] Oper.semAt_some
def eT (us:List Pfx):Nat→Pfx→List Pfx
 |0,p=>if us.any p.meets then []else [p]
 |n+1,p=>if us.any p.meets then (if us.contains p then []else eT us n p.low++eT us n p.high)else [p]
theorem Jt {p:Pfx}(h:p.right=true)(hl:p.len < 16):p.low.right=true:=by
 obtain⟨g1,g2,g3,g4,g5⟩:=dx h;refine Dw (by simp[Pfx.low];omega) (by simp[Pfx.low];omega) g3 g4 ?_;show p.at_ % gh (p.len+1)=0;rw[wE g1 hl]at g5;exact Int.emod_eq_zero_of_dvd (Int.dvd_trans ⟨2,by omega⟩ (ZG g5))
theorem FY {p:Pfx}(h:p.right=true)(hl:p.len < 16):p.high.right=true:=by
 obtain⟨g1,g2,g3,g4,g5⟩:=dx h;have hf:=zR h;have hh:=wE g1 hl;have hs:=fG (n:=p.len+1) (by omega);refine Dw (by simp[Pfx.high];omega) (by simp[Pfx.high];omega) (by simp[Pfx.high];omega) (by simp[Pfx.high];omega) ?_;show (p.at_+gh (p.len+1)) % gh (p.len+1)=0;rw[Int.add_emod_right];rw[hh]at g5;exact Int.emod_eq_zero_of_dvd (Int.dvd_trans ⟨2,by omega⟩ (ZG g5))
structure KP (own:World→Nat→Prop)(W W':World):Prop where
 size:W.heap.size≤W'.heap.size
 cells:∀b c t f,¬own W b→W.heap[b]? =some (.cells c t f)→W'.heap[b]? =some (.cells c t f)
 own:∀b,b < W.heap.size→own W' b→own W b
theorem o5 {w:World}{b:Nat}{o:Obj}(h:w.heap[b]? =some o):b < w.heap.size:=by
 rcases XO b w.heap.size with h'|h'
 ·exact h'
 ·simp[Yj h']at h
theorem KP.trans {own:World→Nat→Prop}{a b c:World}(h:KP own a b)(k:KP own b c):KP own a c:=
 ⟨Yu h.size k.size,fun i x t f hn hc=>k.cells i x t f (fun ho=>hn (h.own i (o5 hc) ho)) (h.cells i x t f hn hc),fun i hi ho=>h.own i hi (k.own i (Yt hi h.size) ho)⟩
theorem KP.of {own:World→Nat→Prop}{a b:World}(h:cW a b)(ho:∀i,own b i→own a i):KP own a b:=
 ⟨h.size,fun i x t f _ hc=>sN h hc,fun i _ hi=>ho i hi⟩
theorem KP.cell {own:World→Nat→Prop}{a b:World}(h:KP own a b){i o:Nat}{v:Value}(hn:¬own a i)(hc:a.cell? ⟨i,o,none⟩=some v):b.cell? ⟨i,o,none⟩=some v:=by
 have hlt:=dn hc;obtain⟨x,hx⟩:∃x,a.heap[i]? =some x:=⟨_,YN hlt⟩;cases x with
 |cells c t f=>
  have:=h.cells i c t f hn hx;simp only[YQ,hx,this]at hc ⊢;exact hc
 |_=>simp[YQ,hx]at hc
theorem Sl.kp {α:Type}{own:World→Nat→Prop}{n₀:Nat}{w w':World}{k:Nat}{R:List Value→α→Prop}{ao:Option Addr}{cap:Nat}{l:List α}(h:Sl (fun b=>b < n₀) w k R ao cap l)(ho:∀b,own w b→n₀≤b)(hb:KP own w w'):Sl (fun b=>b < n₀) w' k R ao cap l:=by
 refine⟨h.cap_le,h.cap_max,fun i hi=>?_⟩;obtain⟨b,off,cs,h1,h2,h3,h4,h5⟩:=h.elem i hi;exact⟨b,off,cs,h1,h2,h3,h4,fun j hj=>hb.cell (fun hx=>by have:=ho b hx;omega) (h5 j hj)⟩
theorem Be {F:Fence}(hd:F.depth=none)(k:Nat):F.room k:=fun d h=>by rw[hd]at h;cases h
theorem RoundIn.anyDepth {F:Fence}(hd:F.depth=none){m m':Nat}{P:Program}{l:Nat}{f:FuncId}{tmps:Array Value}{assign body:Code}{w:World}{R:Ending→World→Prop}
 (h:RoundIn F m P l f tmps assign body w R):RoundIn F m' P l f tmps assign body w R:=⟨h.1,fun c cs _=>h.2 c cs (Be hd _)⟩
theorem YieldAt.anyDepth {F:Fence}(hd:F.depth=none){m:Nat}(m':Nat){P:Program}{l:Nat}{args:Array Value}{W:World}{R:Ending→World→Prop}(h:YieldAt F m P l args W R):YieldAt F m' P l args W R:=by
 obtain⟨fn,tmps,assign,body,hy,hR⟩:=h;exact⟨fn,tmps,assign,body,hy,RoundIn.anyDepth hd hR⟩
def Hz (own:World→Nat→Prop)(J Jx:List Pfx→World→Prop)(pre L:List Pfx)(W:World)(e:Ending)(W':World):Prop:=
 (e= .returned (.bool true)∧J (pre++L) W'∧KP own W W')∨(e= .returned (.bool false)∧∃q,q <+:L∧Jx (pre++q) W')
structure LoopOK (own:World→Nat→Prop)(n₀ N l:Nat)(J Jx:List Pfx→World→Prop):Prop where
 ext:∀s A B,J s A→cW A B→J s B
 extx:∀s A B,Jx s A→cW A B→Jx s B
 own1:∀s A b,J s A→own A b→n₀≤b∧b < A.heap.size
 own2:∀s A B b,J s A→cW A B→own B b→own A b
 round:∀m pre (x:Pfx) W,J pre W→pre.length < N→YieldAt Fence.wide m prog l #[x.v] W fun e W'=>
  (e= .returned (.bool true)∧J (pre++[x]) W'∧KP own W W')∨(e= .returned (.bool false)∧Jx (pre++[x]) W')
theorem LoopOK.kp {own:World→Nat→Prop}{n₀ N l:Nat}{J Jx:List Pfx→World→Prop}(hL:LoopOK own n₀ N l J Jx){s:List Pfx}{A B:World}(hj:J s A)(hx:cW A B):KP own A B:=KP.of hx fun b=>hL.own2 s A B b hj hx
section
variable (own:World→Nat→Prop)(l n₀ N:Nat)(us:List Pfx)(uo:Option Addr)(ucap:Nat)(J Jx:List Pfx→World→Prop)(hL:LoopOK own n₀ N l J Jx)
include hL
theorem zY (p:Pfx)(m:Nat)(pre:List Pfx)(W:World)(hM:us.any p.meets=false)(hs:Sl (fun b=>b < n₀) W 2 Pfx.R uo ucap us)(hj:J pre W)(hN:pre.length+1≤N):
 CallsIn Fence.wide m prog 333 #[p.v,.slice uo us.length ucap,.func (.yield l) #[] #[]] W (Hz own J Jx pre [p] W):=by
 have hm:=fun W' (h:Sl (fun b=>b < n₀) W' 2 Pfx.R uo ucap us)=>kV us uo ucap p W' h;rw[hM]at hm;replace hm:=Xk hm;clear hM;unfold Pfx.v;refine callsIn_of_wp func333 rfl trivial ?_ rfl;simp only[ntmps333,YB,XD,X8,XU,O',ZC,ZD,ZZ,ZJ,Ye,X6];gi_wp2_with fail
 refine⟨trivial,fun h=>(by cases h),?_⟩;refine(callsIn_wide.2 (hm.out _ (hs.ext (au _ _)))).mono ?_;rintro e w1 ⟨rfl,bV⟩;obtain⟨bR,bW⟩:=aI bV;have ce:=bw bV;(try simp only[Xr,aa,Xu,Xs]at bR bW ce)
 have oh:=ag (au _ _) bV;obtain⟨fn,tmps,assign,body,hy,hRr⟩:=hL.round (m - 1) pre p w1 (hL.ext _ _ _ hj oh) (by omega);unfold Pfx.v at hy;have pT:=hL.kp hj oh;gi_wp2_with fail
 refine⟨fun h=>(by cases h),?_⟩;refine hRr.mono ?_;rintro e w2 (⟨rfl,KH,nQ⟩|⟨rfl,pW⟩)
 ·gi_wp2_with fail
  go_ret
  exact .inl ⟨rfl,KH,pT.trans nQ⟩
 ·gi_wp2_with fail
  go_ret
  exact .inr ⟨rfl,[p],List.prefix_refl _,pW⟩
theorem Qi:∀(n:Nat) (p:Pfx) (m:Nat) (pre:List Pfx) (W:World),16 - p.len=(n:Int)→p.right=true→Sl (fun b=>b < n₀) W 2 Pfx.R uo ucap us→J pre W→pre.length+(eT us n p).length≤N→
 CallsIn Fence.wide m prog 333 #[p.v,.slice uo us.length ucap,.func (.yield l) #[] #[]] W (Hz own J Jx pre (eT us n p) W):=by
 intro n;induction n with
 |zero=>
  intro p m pre W hn hr hs hj hN;cases hM:us.any p.meets
  ·unfold eT at hN ⊢;rw[hM]at hN ⊢;simp only[YY,if_false,XD,X8]at hN ⊢;exact zY own l n₀ N us uo ucap J Jx hL p m pre W hM hs hj (by omega)
  ·unfold eT;rw[hM,if_pos rfl];have hm:=fun W' (h:Sl (fun b=>b < n₀) W' 2 Pfx.R uo ucap us)=>kV us uo ucap p W' h;rw[hM]at hm;have hh:=wS p.at_ p.len;have hc:chk p.at_ p.len=0:=by have:=hr;unfold Pfx.right bq at this;simpa using this
   have hl:p.len=16:=by omega
   have hv:pG p.at_ p.len= .tuple #[.agg #[.int .i64 0,.int .i64 0],.agg #[.int .i64 0,.int .i64 0],.int .i64 3]:=by unfold pG zX;rw[if_pos hc,if_pos hl]
   rw[hv]at hh;clear hv hc hM hN hl hn hr;replace hm:=Xk hm;replace hh:=Xk hh;unfold Pfx.v;refine callsIn_of_wp func333 rfl trivial ?_ rfl;simp only[ntmps333,YB,XD,X8,XU,O',ZC,ZD,ZZ,ZJ,Ye,X6];gi_wp2_with fail
   refine⟨trivial,fun h=>(by cases h),?_⟩;refine(callsIn_wide.2 (hm.out _ (hs.ext (au _ _)))).mono ?_;rintro e w1 ⟨rfl,bV⟩;obtain⟨bR,bW⟩:=aI bV;have ce:=bw bV;(try simp only[Xr,aa,Xu,Xs]at bR bW ce)
   have oh:=ag (au _ _) bV;have l1:W.heap.size < w1.heap.size:=by omega
   gi_wp2_with fail
   refine⟨trivial,fun h=>(by cases h),?_⟩;refine(callsIn_wide.2 (hh.out _)).mono ?_;rintro e w2 ⟨rfl,cI⟩;obtain⟨d8,dX⟩:=aI cI;have d4:=bw cI;(try simp only[Xr,aa,Xu,Xs]at d8 dX d4)
   have l2:W.heap.size < w2.heap.size:=by omega
   gi_wp2_with fail
   refine⟨trivial,?_⟩;gi_wp2_with fail
   go_ret
   exact .inl ⟨rfl,by rw[Ya];exact hL.ext _ _ _ hj (ag oh (ag cI (ag (au _ _) (au _ _)))),hL.kp hj (ag oh (ag cI (ag (au _ _) (au _ _))))⟩
 |succ n ih=>
  intro p m pre W hn hr hs hj hN;cases hM:us.any p.meets
  ·unfold eT at hN ⊢;rw[hM]at hN ⊢;simp only[YY,if_false,XD,X8]at hN ⊢;exact zY own l n₀ N us uo ucap J Jx hL p m pre W hM hs hj (by omega)
  ·have hm:=fun W' (h:Sl (fun b=>b < n₀) W' 2 Pfx.R uo ucap us)=>kV us uo ucap p W' h;rw[hM]at hm;have hh:=wS p.at_ p.len;have hc:chk p.at_ p.len=0:=by have:=hr;unfold Pfx.right bq at this;simpa using this
   have hl:p.len < 16:=by omega
   have hv:pG p.at_ p.len= .tuple #[.agg #[.int .i64 p.at_,.int .i64 (p.len+1)],.agg #[.int .i64 (p.at_+gh (p.len+1)),.int .i64 (p.len+1)],.int .i64 0]:=by unfold pG;rw[if_pos hc,if_neg (by omega)]
   rw[hv]at hh;have t5:=fun W' (h:Sl (fun b=>b < n₀) W' 2 Pfx.R uo ucap us)=>FU p us uo ucap W' h;unfold eT at hN ⊢;rw[hM,if_pos rfl]at hN ⊢;clear hv hc hM;replace hm:=Xk hm;replace hh:=Xk hh;cases hC:us.contains p
   ·rw[hC]at t5 hN;simp only[YY,if_false,Xt]at hN ⊢;replace t5:=Xk t5;have ihl:=fun m' pre' W'=>ih p.low m' pre' W' (by simp[Pfx.low];omega) (Jt hr hl);have ihr:=fun m' pre' W'=>ih p.high m' pre' W' (by simp[Pfx.high];omega) (FY hr hl);obtain⟨L,hLL⟩:∃L,L=eT us n p.low:=⟨_,rfl⟩;obtain⟨M,W8⟩:∃M,M=eT us n p.high:=⟨_,rfl⟩;rw[←hLL]at ihl hN ⊢;rw[←W8]at ihr hN ⊢;simp only[Pfx.v,Pfx.low]at ihl;simp only[Pfx.v,Pfx.high]at ihr;replace ihl:=Xk ihl;replace ihr:=Xk ihr;clear ih hLL W8 hC hl hn hr;unfold Pfx.v;refine callsIn_of_wp func333 rfl trivial ?_ rfl;simp only[ntmps333,YB,XD,X8,XU,O',ZC,ZD,ZZ,ZJ,Ye,X6];gi_wp2_with fail
    refine⟨trivial,fun h=>(by cases h),?_⟩;refine(callsIn_wide.2 (hm.out _ (hs.ext (au _ _)))).mono ?_;rintro e w1 ⟨rfl,bV⟩;obtain⟨bR,bW⟩:=aI bV;have ce:=bw bV;(try simp only[Xr,aa,Xu,Xs]at bR bW ce)
    have oh:=ag (au _ _) bV;have l1:W.heap.size < w1.heap.size:=by omega
    gi_wp2_with fail
    refine⟨trivial,fun h=>(by cases h),?_⟩;refine(callsIn_wide.2 (hh.out _)).mono ?_;rintro e w2 ⟨rfl,cI⟩;obtain⟨d8,dX⟩:=aI cI;have d4:=bw cI;(try simp only[Xr,aa,Xu,Xs]at d8 dX d4)
    have pW:=ag oh cI;have l2:W.heap.size < w2.heap.size:=by omega
    gi_wp2_with fail
    refine⟨trivial,fun h=>(by cases h),?_⟩;refine(callsIn_wide.2 (t5.out _ ((hs.ext pW).ext (ag (au _ _) (au _ _))))).mono ?_;rintro e w3 ⟨rfl,pP⟩;obtain⟨y9,E0⟩:=aI pP;have GL:=bw pP;(try simp only[Xr,aa,Xu,Xs]at y9 E0 GL)
    have KB:=ag pW (ag (ag (au _ _) (au _ _)) pP);have hj3:=hL.ext _ _ _ hj KB;have hk3:=hL.kp hj KB;have l3:w2.heap.size < w3.heap.size:=by omega
    have l4:w2.heap.size+1 < w3.heap.size:=by omega
    have l5:W.heap.size < w3.heap.size:=by omega
    have d0:w3.cell? ⟨w2.heap.size,0,none⟩=some (.int .i64 p.at_):=by rw[y9 _ _ (by omega)];go_simp
    have d1:w3.cell? ⟨w2.heap.size,1,none⟩=some (.int .i64 (p.len+1)):=by rw[y9 _ _ (by omega)];go_simp
    have e0:w3.cell? ⟨w2.heap.size+1,0,none⟩=some (.int .i64 (p.at_+gh (p.len+1))):=by rw[y9 _ _ (by omega)];go_simp
    have e1:w3.cell? ⟨w2.heap.size+1,1,none⟩=some (.int .i64 (p.len+1)):=by rw[y9 _ _ (by omega)];go_simp
    have no:¬own w3 (w2.heap.size+1):=fun ho=>by
     have:=(hL.own1 _ _ _ hj (hL.own2 _ _ _ _ hj KB ho)).2;omega
    have hs3:=hs.ext KB;clear y9 E0 d8 dX bR bW;gi_wp2_with fail
    refine⟨trivial,fun h=>(by cases h),?_⟩;refine(ihl.out _ pre _ hs3 hj3 (by omega)).mono ?_;rintro e w4 (⟨rfl,hj4,Xf⟩|⟨rfl,q,hq,UR⟩)
    ·have hs4:=hs3.kp (fun b hb=>(hL.own1 _ _ _ hj3 hb).1) Xf;have e0':=Xf.cell no e0;have e1':=Xf.cell no e1;clear e0 e1 d0 d1;gi_wp2_with fail
     refine⟨trivial,fun h=>(by cases h),?_⟩;refine(ihr.out _ _ _ hs4 hj4 (by simp;omega)).mono ?_;rintro e w5 (⟨rfl,hj5,hk5⟩|⟨rfl,q,hq,hx5⟩)
     ·gi_wp2_with fail
      go_ret
      exact .inl ⟨rfl,by rw[←XT];exact hj5,hk3.trans (Xf.trans hk5)⟩
     ·gi_wp2_with fail
      go_ret
      obtain⟨r,hr⟩:=hq;exact .inr ⟨rfl,L++q,⟨r,by rw[←hr];simp⟩,by rw[←XT];exact hx5⟩
    ·gi_wp2_with fail
     refine⟨trivial,?_⟩;gi_wp2_with fail
     go_ret
     exact .inr ⟨rfl,q,hq.trans (List.prefix_append _ _),UR⟩
   ·rw[hC]at t5;rw[if_pos rfl];replace t5:=Xk t5;clear ih hC hl hn hr hN;unfold Pfx.v;refine callsIn_of_wp func333 rfl trivial ?_ rfl;simp only[ntmps333,YB,XD,X8,XU,O',ZC,ZD,ZZ,ZJ,Ye,X6];gi_wp2_with fail
    refine⟨trivial,fun h=>(by cases h),?_⟩;refine(callsIn_wide.2 (hm.out _ (hs.ext (au _ _)))).mono ?_;rintro e w1 ⟨rfl,bV⟩;obtain⟨bR,bW⟩:=aI bV;have ce:=bw bV;(try simp only[Xr,aa,Xu,Xs]at bR bW ce)
    have oh:=ag (au _ _) bV;have l1:W.heap.size < w1.heap.size:=by omega
    gi_wp2_with fail
    refine⟨trivial,fun h=>(by cases h),?_⟩;refine(callsIn_wide.2 (hh.out _)).mono ?_;rintro e w2 ⟨rfl,cI⟩;obtain⟨d8,dX⟩:=aI cI;have d4:=bw cI;(try simp only[Xr,aa,Xu,Xs]at d8 dX d4)
    have pW:=ag oh cI;have l2:W.heap.size < w2.heap.size:=by omega
    gi_wp2_with fail
    refine⟨trivial,fun h=>(by cases h),?_⟩;refine(callsIn_wide.2 (t5.out _ ((hs.ext pW).ext (ag (au _ _) (au _ _))))).mono ?_;rintro e w3 ⟨rfl,pP⟩;obtain⟨y9,E0⟩:=aI pP;have GL:=bw pP;(try simp only[Xr,aa,Xu,Xs]at y9 E0 GL)
    have KB:=ag pW (ag (ag (au _ _) (au _ _)) pP);gi_wp2_with fail
    go_ret
    exact .inl ⟨rfl,by simpa using hL.ext _ _ _ hj KB,hL.kp hj KB⟩
end
end
section
open Go.Proofs Go.Shelf
attribute [local go_sem] Oper.semAt_some
theorem MM (p:Pfx)(uo:Option Addr)(k ucap:Nat)(w:World):
 Calls prog 280 #[p.v,.slice uo k ucap] w fun e w'=>e= .returned (.func (.func 332) #[] #[.pointer (some ⟨w.heap.size,0,none⟩),.pointer (some ⟨w.heap.size+1,0,none⟩)])∧
  w'=(w.alloc (.cells #[.int .i64 p.at_,.int .i64 p.len] 23)).alloc (.cells #[.slice uo k ucap] 147):=by
 unfold Pfx.v;go_enter func280,ntmps280
 go_wp2_with fail
 go_ret
 exact⟨rfl,rfl⟩
theorem wT {β:Type}{B:Nat}{J:β→World→Prop}(h:AbidesFrom B J):∀s X Y,J s X→cW X Y→J s Y:=fun s X Y hj hx=>
 h s X Y none hj ⟨hx.os,hx.tape,hx.output,hx.size,fun b hb _=>hx.block b hb⟩ (fun r e=>by cases e)
def KG (own:World→Nat→Prop)(G:World→Prop)(W W':World):Prop:=G W→KP own W W'∧G W'
theorem MN (own:World→Nat→Prop)(G:World→Prop)(l n₀ b1 b2:Nat)(us:List Pfx)(uo:Option Addr)(ucap:Nat)(p:Pfx)(n:Nat)(hn:16 - p.len=(n:Int))(hr:p.right=true)(J Jx:List Pfx→World→Prop)
 (m:Nat) (hL:LoopOK own n₀ (eT us n p).length l J Jx) (W:World) (c0:W.cell? ⟨b1,0,none⟩=some (.int .i64 p.at_)) (c1:W.cell? ⟨b1,1,none⟩=some (.int .i64 p.len)) (c2:W.cell? ⟨b2,0,none⟩=some (.slice uo us.length ucap))
 (hs:Sl (fun b=>b < n₀) W 2 Pfx.R uo ucap us) (h0:J [] W):
 CallsIn Fence.wide m prog 332 #[.func (.yield l) #[] #[],.pointer (some ⟨b1,0,none⟩),.pointer (some ⟨b2,0,none⟩)] W fun e W'=>(∃v,e= .returned v)∧
  ((∃ys,ys=eT us n p∧J ys W')∨(∃pre,pre <+:eT us n p∧Jx pre W')):=by
 have hd:=Qi own l n₀ (eT us n p).length us uo ucap J Jx hL n p (m - 1) [] W hn hr hs h0 (by simp);simp only[Pfx.v]at hd;replace hd:=Xk hd;clear hL hn hr;refine callsIn_of_wp func332 rfl trivial ?_ rfl;simp only[ntmps332,YB,XD,X8,XU,O',ZC,ZD,ZZ,ZJ,Ye,X6];gi_wp2_with fail
 refine⟨trivial,fun h=>(by cases h),?_⟩;refine hd.out.mono ?_;rintro e w1 (⟨rfl,hj,hk⟩|⟨rfl,q,hq,hx⟩)
 ·gi_wp2_with fail
  go_end0
  exact⟨⟨_,rfl⟩,.inl ⟨_,rfl,by simpa using hj⟩⟩
 ·gi_wp2_with fail
  go_end0
  exact⟨⟨_,rfl⟩,.inr ⟨q,hq,by simpa using hx⟩⟩
theorem FZ (own:World→Nat→Prop)(G:World→Prop)(m n₀ b1 b2:Nat)(us:List Pfx)(uo:Option Addr)(ucap:Nat)(p:Pfx)(n:Nat)(hn:16 - p.len=(n:Int))(hr:p.right=true)(w:World)
 (hG0:G w) (hG1:∀A b,G A→own A b→n₀≤b∧b < A.heap.size) (hG2:∀A B b,G A→cW A B→own B b→own A b) (hG3:∀A B,G A→cW A B→G B)
 (c0:w.cell? ⟨b1,0,none⟩=some (.int .i64 p.at_)) (c1:w.cell? ⟨b1,1,none⟩=some (.int .i64 p.len)) (c2:w.cell? ⟨b2,0,none⟩=some (.slice uo us.length ucap))
 (hs:Sl (fun b=>b < n₀) w 2 Pfx.R uo ucap us):
 SeqStopsK Fence.wide m prog 332 #[.pointer (some ⟨b1,0,none⟩),.pointer (some ⟨b2,0,none⟩)] (fun x:Pfx=>#[x.v]) (KG own G) (fun ys=>ys=eT us n p) (fun pre=>pre <+:eT us n p) (eT us n p).length w:=by
 intro l J Jx W hW hJ hJx hY h0;have hL:LoopOK own n₀ (eT us n p).length l (fun s A=>J s A∧G A) Jx:=by
  refine⟨fun s A B h hx=>⟨wT hJ s A B h.1 hx,hG3 A B h.2 hx⟩,fun s A B h hx=>wT hJx s A B h hx,fun s A b h ho=>hG1 A b h.2 ho,fun s A B b h hx ho=>hG2 A B b h.2 hx ho,fun m' pre x W1 h hl=>?_⟩;refine YieldAt.mono (YieldAt.anyDepth rfl m' (hY pre x W1 h.1 hl)) fun e W2 h2=>?_;rcases h2 with⟨he,hj,hk⟩|h2
  ·exact .inl ⟨he,⟨hj,(hk h.2).2⟩,(hk h.2).1⟩
  ·exact .inr h2
 refine(MN own G l n₀ b1 b2 us uo ucap p n hn hr (fun s A=>J s A∧G A) Jx m hL W (cP hW c0) (cP hW c1) (cP hW c2) (hs.ext hW) ⟨h0,hG3 _ _ hG0 hW⟩).mono ?_;rintro e W' ⟨hv,⟨ys,hy,hj⟩|h⟩
 ·exact⟨hv,.inl ⟨ys,hy,hj.1⟩⟩
 ·exact⟨hv,.inr h⟩
end
section
open Go.Proofs
def ir (root:Pfx):Int→List Pfx→Bool
 |_,[]=>true
 |free,p::ps=>jq p root&&(decide (free≤p.at_)&&ir root (p.at_+gh p.len) ps)
theorem ut (root:Pfx)(f:Int)(p:Pfx)(ps:List Pfx):ir root f (p::ps)=(jq p root&&(decide (f≤p.at_)&&ir root (p.at_+gh p.len) ps)):=rfl
def iK (root:Pfx)(us:List Pfx):Int:=if us.length>32 then 2 else if chk root.at_ root.len=0 then (if ir root root.at_ us then 0 else 1)else 1
theorem F1 {a l b m:Int}(h:oV a l b m=true):bq a l=true:=by
 unfold oV at h;simp at h;exact h.1.1.1
theorem iu {A:md}(root:Pfx)(us:List Pfx)(uo:Option Addr)(ucap:Nat)(w:World)(h:Sl A w 2 Pfx.R uo ucap us):
 Calls prog 115 #[.agg #[.int .i64 root.at_,.int .i64 root.len,.slice uo us.length ucap]] w fun e w'=>e= .returned (.int .i64 (iK root us))∧cW w w':=by
 have gA:=h.cap_le;have Ki:=h.cap_max;by_cases iG:us.length>32
 ·have hr:iK root us=2:=by unfold iK;rw[if_pos iG]
  rw[hr];have hI:(32:Int) < (us.length:Int):=by omega
  clear hr iG;go_enter func115,ntmps115
  go_wp2_with fail
  go_ret
  refine⟨rfl,Bel.bel (B:=_) ?_⟩;(repeat(first|with_reducible assumption|with_reducible exact Bel.refl _|with_reducible refine Bel.alloc ?_ _|with_reducible refine Bel.drewN ?_ _|with_reducible refine Bel.drew ?_|(with_reducible refine ak ?_ ?_ _;rotate_left;(first|omega|(simp;done)|(simp;omega)))|(with_reducible refine Bel.setCell ?_ (p:=_) ?_ _;rotate_left;(first|(simp;done)|omega|(simp;omega)))|refine Bel.call ?_ (by assumption)|(refine EX.bel ?_ (by assumption) ?_;rotate_left;(first|omega|(simp;omega)))))
 ·have hI:(us.length:Int)≤32:=by omega
  have bD:=pA root.at_ root.len;by_cases hc:chk root.at_ root.len=0
  ·obtain⟨r,hr⟩:∃r,r=iK root us:=⟨_,rfl⟩;rw[←hr];have yi:r=if ir root root.at_ us then 0 else 1:=by rw[hr];unfold iK;rw[if_neg iG,if_pos hc]
   rw[hc]at bD;clear hr hc iG;replace hr:=Xk yi;clear yi;replace bD:=Xk bD;go_enter func115,ntmps115
   go_wp2_with fail
   refine(bD.out _).mono ?_;rintro e w1 ⟨rfl,bV⟩;obtain⟨bR,bW⟩:=aI bV;have ce:=bw bV;(try simp only[Xr,aa,Xu,Xs]at bR bW ce)
   have l1:w.heap.size < w1.heap.size:=by omega
   go_wp2_with fail
   go_loopw [3,20] (fun s3 s20 wr=>∃(k:Nat) (f:Int),k≤us.length∧s20= .int .i64 k∧s3= .int .i64 f∧Hid (ir root root.at_ us=ir root f (us.drop k))∧cW w1 wr) (fun _ s20 _=>us.length - (intOf s20).toNat)
   case atStart=>exact⟨0,root.at_,XL _,rfl,rfl,Xk rfl,Below.refl _ _⟩
   case round=>
    obtain⟨k,f,hk,rfl,rfl,hu,hx⟩:=hrel;have jO:Bel w.heap.size w wr:=(((Bel.refl w).alloc _).call bV).call hx;obtain⟨hcr,EN⟩:=aI hx;have hzr:=bw hx;have lr:w.heap.size < wr.heap.size:=by omega
    by_cases hlt:k < us.length
    ·have ec:(k:Int) < (us.length:Int):=by omega
     have E1:us.drop k=us[k]::us.drop (k+1):=YV hlt;rw[E1]at hu;clear E1;obtain⟨b,off,cs,rfl,-,aT,hR,ly⟩:=h.elem k hlt;replace ly:=fK (ag (ag (au _ _) bV) hx) ly;unfold Pfx.R at hR;subst hR;obtain⟨k0,k1⟩:=mI ly;have lb:=dn k0;obtain⟨p,hp⟩:∃p,p=us[k]:=⟨_,rfl⟩;rw[←hp]at k0 k1 hu;clear ly hp h;have fl:=kI p.at_ p.len root.at_ root.len;obtain⟨q,hq⟩:∃q,q=oV p.at_ p.len root.at_ root.len:=⟨_,rfl⟩;rw[←hq]at fl;have ym:ir root root.at_ us=(q&&(decide (f≤p.at_)&&ir root (p.at_+gh p.len) (us.drop (k+1)))):=by rw[hu.out,ut,hq];rfl
     clear hu;cases q
     case false=>
      have fm:r=1:=by rw[hr.out,ym];rfl
      replace fm:=Xk fm;clear ym hr hq;replace fl:=Xk fl;go_wp2_with fail
      refine(fl.out _).mono ?_;rintro e w2 ⟨rfl,cI⟩;obtain⟨d8,dX⟩:=aI cI;have d4:=bw cI;(try simp only[Xr,aa,Xu,Xs]at d8 dX d4)
      go_wp2_with fail
      go_ret
      refine⟨bM fm.out.symm,Bel.bel (B:=_) ?_⟩;(repeat(first|with_reducible assumption|with_reducible exact Bel.refl _|with_reducible refine Bel.alloc ?_ _|with_reducible refine Bel.drewN ?_ _|with_reducible refine Bel.drew ?_|(with_reducible refine ak ?_ ?_ _;rotate_left;(first|omega|(simp;done)|(simp;omega)))|(with_reducible refine Bel.setCell ?_ (p:=_) ?_ _;rotate_left;(first|(simp;done)|omega|(simp;omega)))|refine Bel.call ?_ (by assumption)|(refine EX.bel ?_ (by assumption) ?_;rotate_left;(first|omega|(simp;omega)))))
     case true=>
      have EV:=F1 hq.symm;obtain⟨g1,g2,g3,g4,-⟩:=dx EV;obtain⟨z1,z2⟩:=fG g1;have cM:=Du p.at_ p.len;rw[ur EV]at cM;have dW:IntKind.i64.wrap (p.at_+gh p.len)=p.at_+gh p.len:=IntWalk.i64_in _ (by omega);replace fl:=Xk fl;replace cM:=Xk cM;clear hq EV;by_cases hf:f≤p.at_
      ·have ON:ir root root.at_ us=ir root (p.at_+gh p.len) (us.drop (k+1)):=by rw[ym];simp[hf]
       clear ym;replace ON:=Xk ON;go_wp2_with fail
       refine(fl.out _).mono ?_;rintro e w2 ⟨rfl,cI⟩;obtain⟨d8,dX⟩:=aI cI;have d4:=bw cI;(try simp only[Xr,aa,Xu,Xs]at d8 dX d4)
       have l2:w.heap.size < w2.heap.size:=by omega
       have l3:wr.heap.size < w2.heap.size:=by omega
       go_wp2_with fail
       refine cu (by kernel_rfl) (by kernel_rfl) (fun _ _ d _ _ h=>by cases d<;>exact h) ?_;repeat(first|((first|refine bA rfl rfl rfl (by with_reducible rfl) ?_|refine bB rfl rfl rfl (by with_reducible rfl) ?_|refine bC rfl rfl rfl (by with_reducible rfl) ?_);simp only[Act.put,Xn,Xv,Xw])|(apply cj;(first|exact bp rfl|exact bE rfl rfl rfl (by with_reducible rfl));intro wq cE R hR;((have ee:=(aI cE).1;(try simp only[Xr,aa,Xu,Xs]at ee));go_simp;first|exact hR|((go_at_call 203;exact jS (cM.out _) hR)));simp only[Act.put,Xn,Xv,Xw]))
       refine ep ?_;intro w3 pP;obtain⟨y9,E0⟩:=aI pP;have GL:=bw pP;(try simp only[Xr,aa,Xu,Xs]at y9 E0 GL)
       go_wp2_with fail
       go_roundw
       case rel=>exact⟨k+1,_,by omega,by go_num,rfl,ON,ag hx (ag (ag (au _ _) cI) pP)⟩
       case measure=>simp[intOf];omega
      ·have fm:r=1:=by rw[hr.out,ym];simp[hf]
       replace fm:=Xk fm;have hf':p.at_ < f:=by omega
       clear ym hr hf;go_wp2_with fail
       refine(fl.out _).mono ?_;rintro e w2 ⟨rfl,cI⟩;obtain⟨d8,dX⟩:=aI cI;have d4:=bw cI;(try simp only[Xr,aa,Xu,Xs]at d8 dX d4)
       have l2:w.heap.size < w2.heap.size:=by omega
       have l3:wr.heap.size < w2.heap.size:=by omega
       go_wp2_with fail
       go_ret
       refine⟨bM fm.out.symm,Bel.bel (B:=_) ?_⟩;(repeat(first|with_reducible assumption|with_reducible exact Bel.refl _|with_reducible refine Bel.alloc ?_ _|with_reducible refine Bel.drewN ?_ _|with_reducible refine Bel.drew ?_|(with_reducible refine ak ?_ ?_ _;rotate_left;(first|omega|(simp;done)|(simp;omega)))|(with_reducible refine Bel.setCell ?_ (p:=_) ?_ _;rotate_left;(first|(simp;done)|omega|(simp;omega)))|refine Bel.call ?_ (by assumption)|(refine EX.bel ?_ (by assumption) ?_;rotate_left;(first|omega|(simp;omega)))))
    ·have ec:¬(k:Int) < (us.length:Int):=by omega
     obtain rfl:k=us.length:=by omega
     have fm:r=0:=by rw[hr.out,hu.out,Zf];rfl
     replace fm:=Xk fm;clear hr hu;go_wp2_with fail
     go_ret
     exact⟨bM fm.out.symm,jO.bel⟩
  ·have hr:iK root us=1:=by unfold iK;rw[if_neg iG,if_neg hc]
   rw[hr];obtain⟨c,ee⟩:∃c,c=chk root.at_ root.len:=⟨_,rfl⟩;rw[←ee]at bD;have bH:(c !=0)=true:=by rw[ee];simpa using hc
   clear hr iG hc ee;replace bD:=Xk bD;go_enter func115,ntmps115
   go_wp2_with fail
   refine(bD.out _).mono ?_;rintro e w1 ⟨rfl,bV⟩;obtain⟨bR,bW⟩:=aI bV;have ce:=bw bV;(try simp only[Xr,aa,Xu,Xs]at bR bW ce)
   go_wp2_with fail
   go_ret
   refine⟨rfl,Bel.bel (B:=_) ?_⟩;(repeat(first|with_reducible assumption|with_reducible exact Bel.refl _|with_reducible refine Bel.alloc ?_ _|with_reducible refine Bel.drewN ?_ _|with_reducible refine Bel.drew ?_|(with_reducible refine ak ?_ ?_ _;rotate_left;(first|omega|(simp;done)|(simp;omega)))|(with_reducible refine Bel.setCell ?_ (p:=_) ?_ _;rotate_left;(first|(simp;done)|omega|(simp;omega)))|refine Bel.call ?_ (by assumption)|(refine EX.bel ?_ (by assumption) ?_;rotate_left;(first|omega|(simp;omega)))))
end
section
open Go.Proofs Go.Shelf
attribute [local go_sem] Oper.semAt_some
def Bf (root:Pfx)(us:List Pfx):List Pfx:=eT us (16 - root.len).toNat root
@[go_sem] def Pfx.zero:Pfx:=⟨0,0⟩
def mJ (root:Pfx)(us:List Pfx)(size:Int):Pfx × Bool × Int:=
 if iK root us=0 then
  (if size < root.len∨16 < size then (Pfx.zero,false,3)else match (Bf root us).find? (fun q=>decide (q.len≤size))with|some q=>(⟨q.at_,size⟩,true,0)|none=>(Pfx.zero,false,0))
 else (Pfx.zero,false,iK root us)
def pU (W:World)(b:Nat)(cs:Array Value)(t:TypeId):Prop:=W.heap[b]? =some (.cells cs t (0,0))
theorem ey {A B:World}{row:Option Nat}{b:Nat}{cs:Array Value}{t:TypeId}(h:pU A b cs t)(hg:A.grownBy B row)(hr:∀r,row=some r→∃o:Obj,A.heap[r]? =some o∧o.isCells=false):pU B b cs t:=
 (hg.block b (o5 h) (fun e=>by obtain⟨o,ho,hc⟩:=hr b e.symm;rw[show A.heap[b]? =_ from h]at ho;cases ho;cases hc)).trans h
theorem j6 {A B:World}{b:Nat}{cs:Array Value}{t:TypeId}(h:pU A b cs t)(hx:cW A B):pU B b cs t:=sN hx h
theorem c9 {W:World}{b o:Nat}{cs:Array Value}{t:TypeId}{v:Value}(h:pU W b cs t)(hv:cs[o]? =some v):W.cell? ⟨b,o,none⟩=some v:=aG h hv
theorem mK {W:World}{b o:Nat}{cs:Array Value}{t:TypeId}(h:pU W b cs t):W.frozen? ⟨b,o,none⟩=false:=gj h
theorem lL {W:World}{b o:Nat}{cs:Array Value}{t:TypeId}(h:pU W b cs t)(v:Value):pU (W.setCell ⟨b,o,none⟩ v) b (cs.setIfInBounds o v) t:=lY h v
theorem da {W:World}{b c o:Nat}{cs:Array Value}{t:TypeId}(h:pU W b cs t)(bH:c≠b)(v:Value):pU (W.setCell ⟨c,o,none⟩ v) b cs t:=(dU v bH).trans h
theorem Sl.inW {α:Type}{A:md}{w:World}{k:Nat}{R:List Value→α→Prop}{ao:Option Addr}{cap:Nat}{l:List α}(h:Sl A w (k+1) R ao cap l):Sl (fun b=>b < w.heap.size) w (k+1) R ao cap l:=by
 refine⟨h.cap_le,h.cap_max,fun i hi=>?_⟩;obtain⟨b,off,cs,h1,h2,h3,h4,h5⟩:=h.elem i hi;exact⟨b,off,cs,h1,dn (h5 0 (by omega)),h3,h4,h5⟩
theorem a0g {own:World→Nat→Prop}{G:World→Prop}{A B C:World}(h:KG own G A B)(k:KG own G B C):KG own G A C:=fun g=>⟨(h g).1.trans (k (h g).2).1,(k (h g).2).2⟩
abbrev MO:World→Nat→Prop:=fun _ _=>False
abbrev noG:World→Prop:=fun _=>True
theorem Sc {W W':World}(h:cW W W'):KG MO noG W W':=fun _=>⟨KP.of h fun _ h=>h,trivial⟩
theorem Ju {w:World}(W:World)(l:Nat)(o o':Obj)(_:w.heap.size≤l)(h:W.heap[l]? =some o)(hc:o.isCells=false)(_:o.isWalk=false):KG MO noG W (W.putObj l o'):=fun _=>
 ⟨⟨(grownBy_putObj' W l o').size,fun b c t f _ hb=>((grownBy_putObj' W l o').block b (o5 hb) (fun e=>by cases e;rw[h]at hb;cases hb;cases hc)).trans hb,fun b _ ho=>ho⟩,trivial⟩
def Vr (w w1:World)(size:Int)(pre:List Pfx)(W:World):Prop:=
 ((∀y∈pre,decide (y.len≤size)=false)∧pU W (w.heap.size+1) #[.int .i64 size] 3∧pU W (w.heap.size+2) #[.int .i64 0,.int .i64 0] 23∧pU W (w.heap.size+3) #[.bool false] 4∧pU W (w.heap.size+4) #[.int .i64 0] 37∧w1.heap.size≤W.heap.size)∧Below w.heap.size w W
def Vs (w:World)(size:Int)(c:Code)(pre:List Pfx)(W:World):Prop:=
 (c= .ret∧∃q x,pre=q++[x]∧decide (x.len≤size)=true∧(∀y∈q,decide (y.len≤size)=false)∧pU W (w.heap.size+2) #[.int .i64 x.at_,.int .i64 size] 23∧pU W (w.heap.size+3) #[.bool true] 4∧pU W (w.heap.size+4) #[.int .i64 0] 37)∧Below w.heap.size w W
theorem DQ (w w1:World)(size:Int)(B:Nat)(hB:w.heap.size≤B):OwnFrom B (Vr w w1 size):=by
 intro s X Y row h hg hr;obtain⟨⟨h1,h2,h3,h4,h5,h6⟩,h7⟩:=h;have hr':∀r,row=some r→∃o:Obj,X.heap[r]? =some o∧o.isCells=false:=fun r e=>(hr r e).2;exact⟨⟨h1,ey h2 hg hr',ey h3 hg hr',ey h4 hg hr',ey h5 hg hr',Yu h6 hg.size⟩,h7.grown hg h7.size (fun k e=>Yu hB (hr k e).1)⟩
theorem MP (w:World)(size:Int)(c:Code)(B:Nat)(hB:w.heap.size≤B):OwnFrom B (Vs w size c):=by
 intro s X Y row h hg hr;obtain⟨⟨h1,q,x,h2,h3,h4,h5,h6,h7⟩,h8⟩:=h;have hr':∀r,row=some r→∃o:Obj,X.heap[r]? =some o∧o.isCells=false:=fun r e=>(hr r e).2;exact⟨⟨h1,q,x,h2,h3,h4,ey h5 hg hr',ey h6 hg hr',ey h7 hg hr'⟩,h8.grown hg h8.size (fun k e=>Yu hB (hr k e).1)⟩
def MQ (w w1:World)(root:Pfx)(uo:Option Addr)(n ucap:Nat)(size:Int)(x:Pfx)(Bx:Nat):Act:=
 {tmps:=#[.agg #[.int .i64 root.at_,.int .i64 root.len,.slice uo n ucap],.int .i64 size,.pointer (some ⟨w.heap.size,0,none⟩),.pointer (some ⟨w.heap.size+1,0,none⟩),.pointer (some ⟨w.heap.size+1+1,0,none⟩),.pointer (some ⟨w.heap.size+1+1+1,0,none⟩),.pointer (some ⟨w.heap.size+1+1+1+1,0,none⟩),.int .i64 0,.pointer (some ⟨Bx,0,none⟩),
  .agg #[.int .i64 root.at_,.int .i64 root.len,.slice uo n ucap],.int .i64 0,.int .i64 0,.bool false,undef,undef,.int .i64 size,.pointer (some ⟨w.heap.size,0,none⟩),.pointer (some ⟨w.heap.size,1,none⟩),.int .i64 root.len,.bool false,.bool false,.int .i64 size,.bool false,.bool false,undef,.pointer (some ⟨w.heap.size,0,none⟩),.agg #[.int .i64 root.at_,.int .i64 root.len],.pointer (some ⟨w.heap.size,2,none⟩),.slice uo n ucap,
  .func (.func 332) #[] #[.pointer (some ⟨w1.heap.size,0,none⟩),.pointer (some ⟨w1.heap.size+1,0,none⟩)],.agg #[.int .i64 x.at_,.int .i64 x.len],undef,undef,undef,undef,undef,undef,undef,undef,undef],defers:=[]}
def Vt (w w1:World)(root:Pfx)(uo:Option Addr)(n ucap:Nat)(size:Int)(x:Pfx)(a':Act)(W:World):Prop:=
 ∃Bx,w1.heap.size≤Bx∧pU W Bx #[.int .i64 x.at_,.int .i64 x.len] 23∧a'=MQ w w1 root uo n ucap size x Bx
theorem MR {A:md}(root:Pfx)(us:List Pfx)(uo:Option Addr)(ucap:Nat)(size:Int)(w:World)(h:Sl A w 2 Pfx.R uo ucap us)(BS:iK root us=0)(h1:root.len≤size)(h2:size≤16):
 Calls prog 238 #[.agg #[.int .i64 root.at_,.int .i64 root.len,.slice uo us.length ucap],.int .i64 size] w fun e w'=>
  e= .returned (.tuple #[(mJ root us size).1.v,.bool (mJ root us size).2.1,.int .i64 (mJ root us size).2.2])∧cW w w':=by
 have bD:=fun W (h:Sl A W 2 Pfx.R uo ucap us)=>iu root us uo ucap W h;rw[BS]at bD;replace bD:=Xk bD;have Wx:=fun W=>MM root uo us.length ucap W;unfold Pfx.v at Wx;replace Wx:=Xk Wx;refine(callsIn_wide (n:=3)).1 ?_;refine callsIn_of_wp_marks func238 rfl trivial ?_ rfl;simp only[ntmps238,YB,XD,X8,XU,O',ZC,ZD,ZZ,ZJ,Ye,X6];gi_wp2_with fail
 refine⟨trivial,?_⟩;refine(callsIn_wide.2 (bD.out _ (h.ext (ag (au _ _) (ag (au _ _) (ag (au _ _) (ag (au _ _) (au _ _)))))))).mono ?_;rintro e w1 ⟨rfl,bV⟩;obtain⟨bR,bW⟩:=aI bV;have ce:=bw bV;(try simp only[Xr,aa,Xu,Xs]at bR bW ce)
 have l1:w.heap.size < w1.heap.size:=by omega
 have l2:w.heap.size+1 < w1.heap.size:=by omega
 gi_wp2_with fail
 refine⟨trivial,?_⟩;refine(callsIn_wide.2 (Wx.out _)).mono ?_;rintro e w2 ⟨rfl,rfl⟩;have b0:pU w1 w.heap.size #[.int .i64 root.at_,.int .i64 root.len,.slice uo us.length ucap] 149:=j6 (bQ (bQ (bQ (bQ (kA _ (by simp)))))) bV;have b1:pU w1 (w.heap.size+1) #[.int .i64 size] 3:=j6 (bQ (bQ (bQ (kA _ (by simp))))) bV;have b2:pU w1 (w.heap.size+2) #[.int .i64 0,.int .i64 0] 23:=j6 (bQ (bQ (kA _ (by simp)))) bV;have b3:pU w1 (w.heap.size+3) #[.bool false] 4:=j6 (bQ (kA _ (by simp))) bV;have b4:pU w1 (w.heap.size+4) #[.int .i64 0] 37:=j6 (kA _ (by simp)) bV;have jV:decide (size < root.len)=false:=by simp;omega
 have lX:decide (16 < size)=false:=by simp;omega
 gi_wp2_with fail
 have pW:cW w1 ((w1.alloc (.cells #[.int .i64 root.at_,.int .i64 root.len] 23)).alloc (.cells #[.slice uo us.length ucap] 147)):=ag (au _ _) (au _ _);have E8:cW w w1:=ag (ag (au _ _) (ag (au _ _) (ag (au _ _) (ag (au _ _) (au _ _))))) bV;have aT:16 - root.len=(((16 - root.len).toNat:Nat):Int):=by omega
 have Wy:root.right=true:=by
  unfold iK at BS;split at BS<;>(try split at BS)<;>simp_all[Pfx.right,bq]
 refine wpIn_rangeFunc_ownH rfl (by omega) (gf:=332) (lb:=#[.pointer (some ⟨w1.heap.size,0,none⟩),.pointer (some ⟨w1.heap.size+1,0,none⟩)]) rfl trivial (enters_of func332 (by kernel_rfl) rfl)
  (FZ MO noG 2 w1.heap.size w1.heap.size (w1.heap.size+1) us uo ucap root _ aT Wy _ trivial (fun _ _ _ h=>h.elim) (fun _ _ _ _ _ h=>h) (fun _ _ _ _=>trivial) (by simp) (by simp) (by simp) ((((h.ext E8).inW).ext pW))) a0g (Ju (w:=((w1.alloc (.cells #[.int .i64 root.at_,.int .i64 root.len] 23)).alloc (.cells #[.slice uo us.length ucap] 147)))) (Below.refl _ _) (fun _=>rfl)
  (Vr w w1 size) (Vs w size) (DQ w w1 size _ (by simp;omega)) (fun c=>MP w size c _ (by simp;omega))
  ⟨⟨by simp,j6 b1 pW,j6 b2 pW,j6 b3 pW,j6 b4 pW,pW.size⟩,(ag E8 pW).mono (XC _)⟩
  (Vt w w1 root uo us.length ucap size) (fun x a'=>by
   intro s X Y row h hg hr;obtain⟨Bx,h1,h2,h3⟩:=h;exact⟨Bx,h1,ey h2 hg (fun r e=>(hr r e).2),h3⟩) ?assign ?body ?done ?stop
 case assign=>
  intro l pre x W K hi hK;have hi':=hi;obtain⟨⟨-,-,-,-,-,cM⟩,hB⟩:=hi';unfold Pfx.v;gi_wp2
  refine hK _ _ ((KeepsOthers.alloc _ _).from _) (Sc (au _ _)) (DQ w w1 size w.heap.size (XC _) _ _ _ none hi (World.grownBy_alloc _ _ _) (fun r e=>by cases e)) ⟨W.heap.size,cM,b8 _ _,rfl⟩
 case body=>
  rintro l pre x a' W hl ⟨r,hr⟩ hi ⟨Bx,hBx,bX,rfl⟩ hlt;obtain⟨⟨hp,c1,c2,c3,c4,cM⟩,hB⟩:=hi;have x0:=c9 (o:=0) bX rfl;have x1:=c9 (o:=1) bX rfl;have s0:=c9 (o:=0) c1 rfl;have p0:=c9 (o:=0) c2 rfl;have p1:=c9 (o:=1) c2 rfl;have q0:=c9 (o:=0) c3 rfl;have r0:=c9 (o:=0) c4 rfl;have f2:∀o,W.frozen? ⟨w.heap.size+2,o,none⟩=false:=fun o=>mK c2;have f3:∀o,W.frozen? ⟨w.heap.size+3,o,none⟩=false:=fun o=>mK c3;have f4:∀o,W.frozen? ⟨w.heap.size+4,o,none⟩=false:=fun o=>mK c4;unfold MQ;cases hx:decide (x.len≤size)
  ·have Hx:=Xk hx;gi_wp2
   exact⟨(KeepsOthers.refl _).from _,Sc (Below.refl _ _),⟨⟨fun y hy=>(X4.1 hy).elim (hp y) (fun e=>by simp at e;rw[e];exact Hx.out),c1,c2,c3,c4,cM⟩,hB⟩⟩
  ·have Hx:=Xk hx;gi_wp2
   refine⟨((((KeepsOthers.setCell _ _ _).trans (KeepsOthers.setCell _ _ _)).trans (KeepsOthers.setCell _ _ _)).trans (KeepsOthers.setCell _ _ _)).from _,⟨⟨rfl,pre,x,rfl,Hx.out,hp,?_,?_,?_⟩,?_⟩⟩
   ·exact da (da (lL (lL c2 _) _) (by omega) _) (by omega) _
   ·exact da (lL (da (da c3 (by omega) _) (by omega) _) _) (by omega) _
   ·exact lL (da (da (da c4 (by omega) _) (by omega) _) (by omega) _) _
   ·exact(((hB.setCell (p:=⟨w.heap.size+2,0,none⟩) (by simp) _).setCell (p:=⟨w.heap.size+2,1,none⟩) (by simp) _).setCell (p:=⟨w.heap.size+3,0,none⟩) (by simp) _).setCell (p:=⟨w.heap.size+4,0,none⟩) (by simp) _
 case done=>
  rintro D ys W hD rfl ⟨⟨bH,c1,c2,c3,c4,cM⟩,hB⟩ hK;have p0:=c9 (o:=0) c2 rfl;have p1:=c9 (o:=1) c2 rfl;have q0:=c9 (o:=0) c3 rfl;have r0:=c9 (o:=0) c4 rfl;have f2:∀o,W.frozen? ⟨w.heap.size+2,o,none⟩=false:=fun o=>mK c2;have f3:∀o,W.frozen? ⟨w.heap.size+3,o,none⟩=false:=fun o=>mK c3;have f4:∀o,W.frozen? ⟨w.heap.size+4,o,none⟩=false:=fun o=>mK c4;have tV:mJ root us size=(Pfx.zero,false,0):=by
   unfold mJ;rw[if_pos BS,if_neg (by omega)];have:(Bf root us).find? (fun q=>decide (q.len≤size))=none:=by
    rw[YF];intro q hq;rw[bH q hq];simp
   rw[this]
  replace tV:=Xk tV;replace bH:=Xk bH;have hK':=((((KeepsOthers.setCell W ⟨w.heap.size+2,0,none⟩ (.int .i64 0)).trans (KeepsOthers.setCell _ ⟨w.heap.size+2,1,none⟩ (.int .i64 0))).trans (KeepsOthers.setCell _ ⟨w.heap.size+3,0,none⟩ (.bool false))).trans (KeepsOthers.setCell _ ⟨w.heap.size+4,0,none⟩ (.int .i64 0))).same D _ hK rfl;have e2:=ey (da (c:=w.heap.size+4) (o:=0) (da (c:=w.heap.size+3) (o:=0) (lL (o:=1) (lL (o:=0) c2 (.int .i64 0)) (.int .i64 0)) (by omega) (.bool false)) (by omega) (.int .i64 0)) (grownBy_putObj' _ D (.deferred none)) (fun r e=>by cases e;exact⟨_,hK',rfl⟩);have e3:=ey (da (c:=w.heap.size+4) (o:=0) (lL (o:=0) (da (c:=w.heap.size+2) (o:=1) (da (c:=w.heap.size+2) (o:=0) c3 (by omega) (.int .i64 0)) (by omega) (.int .i64 0)) (.bool false)) (by omega) (.int .i64 0)) (grownBy_putObj' _ D (.deferred none)) (fun r e=>by cases e;exact⟨_,hK',rfl⟩);have e4:=ey (lL (o:=0) (da (c:=w.heap.size+3) (o:=0) (da (c:=w.heap.size+2) (o:=1) (da (c:=w.heap.size+2) (o:=0) c4 (by omega) (.int .i64 0)) (by omega) (.int .i64 0)) (by omega) (.bool false)) (.int .i64 0)) (grownBy_putObj' _ D (.deferred none)) (fun r e=>by cases e;exact⟨_,hK',rfl⟩);have hB4:=((((hB.setCell (p:=⟨w.heap.size+2,0,none⟩) (by simp) (.int .i64 0)).setCell (p:=⟨w.heap.size+2,1,none⟩) (by simp) (.int .i64 0)).setCell (p:=⟨w.heap.size+3,0,none⟩) (by simp) (.bool false)).setCell (p:=⟨w.heap.size+4,0,none⟩) (by simp) (.int .i64 0)).trans (belowK_b (w:=w) (XC _) _ D _ (.deferred none) (by simp at hD;omega) hK' rfl rfl);gi_wp2
  refine⟨by simp,.inl ⟨_,_,rfl,run_takeDeferred hK',?_⟩⟩;refine⟨.tuple #[Pfx.zero.v,.bool false,.int .i64 0],?_,by rw[tV.out],hB4⟩;have y0:=c9 (o:=0) e2 rfl;have y1:=c9 (o:=1) e2 rfl;have y2:=c9 (o:=0) e3 rfl;have y3:=c9 (o:=0) e4 rfl;unfold Pfx.zero Pfx.v;simp[results,f238,go_sem,y0,y1,y2,y3]
 case stop=>
  rintro D c pre W hD Un ⟨⟨rfl,q,x,hq,hx,hn,c2,c3,c4⟩,hB⟩ hK;have tV:mJ root us size=(⟨x.at_,size⟩,true,0):=by
   unfold mJ;rw[if_pos BS,if_neg (by omega)];have:(Bf root us).find? (fun q=>decide (q.len≤size))=some x:=by
    obtain⟨r,hr⟩:=Un;unfold Bf;rw[←hr,hq,XT,List.find?_append];have h1:q.find? (fun q=>decide (q.len≤size))=none:=by
     rw[YF];intro y hy;rw[hn y hy];simp
    rw[h1];simp only[X6,List.find?_cons,hx,Option.none_or]
   rw[this]
  replace tV:=Xk tV;replace hn:=Xk hn;replace hq:=Xk hq;replace Un:=Xk Un;have e2:=ey c2 (grownBy_putObj' _ D (.deferred none)) (fun r e=>by cases e;exact⟨_,hK,rfl⟩);have e3:=ey c3 (grownBy_putObj' _ D (.deferred none)) (fun r e=>by cases e;exact⟨_,hK,rfl⟩);have e4:=ey c4 (grownBy_putObj' _ D (.deferred none)) (fun r e=>by cases e;exact⟨_,hK,rfl⟩);have hB4:=hB.trans (belowK_b (w:=w) (XC _) _ D _ (.deferred none) (by simp at hD;omega) hK rfl rfl);gi_wp2
  refine⟨by simp,.inl ⟨_,_,rfl,run_takeDeferred hK,?_⟩⟩;refine⟨.tuple #[Pfx.v ⟨x.at_,size⟩,.bool true,.int .i64 0],?_,by rw[tV.out],hB4⟩;have y0:=c9 (o:=0) e2 rfl;have y1:=c9 (o:=1) e2 rfl;have y2:=c9 (o:=0) e3 rfl;have y3:=c9 (o:=0) e4 rfl;unfold Pfx.v;simp[results,f238,go_sem,y0,y1,y2,y3]
theorem Qj {A:md}(root:Pfx)(us:List Pfx)(uo:Option Addr)(ucap:Nat)(size:Int)(w:World)(h:Sl A w 2 Pfx.R uo ucap us):
 Calls prog 238 #[.agg #[.int .i64 root.at_,.int .i64 root.len,.slice uo us.length ucap],.int .i64 size] w fun e w'=>
  e= .returned (.tuple #[(mJ root us size).1.v,.bool (mJ root us size).2.1,.int .i64 (mJ root us size).2.2])∧cW w w':=by
 by_cases h0:iK root us=0
 ·by_cases h1:root.len≤size∧size≤16
  ·exact MR root us uo ucap size w h h0 h1.1 h1.2
  ·have hf:mJ root us size=(Pfx.zero,false,3):=by unfold mJ;rw[if_pos h0,if_pos (by omega)]
   rw[hf];have bD:=fun W (h:Sl A W 2 Pfx.R uo ucap us)=>iu root us uo ucap W h;rw[h0]at bD;replace bD:=Xk bD;clear hf h0;unfold Pfx.zero Pfx.v;by_cases h2:size < root.len
   ·have jV:decide (size < root.len)=true:=by simp[h2]
    clear h1;go_enter func238,ntmps238
    go_wp2_with fail
    refine(bD.out _ (h.ext (ag (au _ _) (ag (au _ _) (ag (au _ _) (ag (au _ _) (au _ _))))))).mono ?_;rintro e w1 ⟨rfl,bV⟩;obtain⟨bR,bW⟩:=aI bV;have ce:=bw bV;(try simp only[Xr,aa,Xu,Xs]at bR bW ce)
    go_wp2_with fail
    refine bodyPost_ret ?_ rfl ⟨rfl,Bel.bel (B:=_) ?_⟩
    ·simp[results,results238,go_sem,bR]
    ·(repeat(first|with_reducible assumption|with_reducible exact Bel.refl _|with_reducible refine Bel.alloc ?_ _|with_reducible refine Bel.drewN ?_ _|with_reducible refine Bel.drew ?_|(with_reducible refine ak ?_ ?_ _;rotate_left;(first|omega|(simp;done)|(simp;omega)))|(with_reducible refine Bel.setCell ?_ (p:=_) ?_ _;rotate_left;(first|(simp;done)|omega|(simp;omega)))|refine Bel.call ?_ (by assumption)|(refine EX.bel ?_ (by assumption) ?_;rotate_left;(first|omega|(simp;omega)))))
   ·have jV:decide (size < root.len)=false:=by simp[h2]
    have lX:decide (16 < size)=true:=by simp;omega
    clear h1;go_enter func238,ntmps238
    go_wp2_with fail
    refine(bD.out _ (h.ext (ag (au _ _) (ag (au _ _) (ag (au _ _) (ag (au _ _) (au _ _))))))).mono ?_;rintro e w1 ⟨rfl,bV⟩;obtain⟨bR,bW⟩:=aI bV;have ce:=bw bV;(try simp only[Xr,aa,Xu,Xs]at bR bW ce)
    go_wp2_with fail
    refine bodyPost_ret ?_ rfl ⟨rfl,Bel.bel (B:=_) ?_⟩
    ·simp[results,results238,go_sem,bR]
    ·(repeat(first|with_reducible assumption|with_reducible exact Bel.refl _|with_reducible refine Bel.alloc ?_ _|with_reducible refine Bel.drewN ?_ _|with_reducible refine Bel.drew ?_|(with_reducible refine ak ?_ ?_ _;rotate_left;(first|omega|(simp;done)|(simp;omega)))|(with_reducible refine Bel.setCell ?_ (p:=_) ?_ _;rotate_left;(first|(simp;done)|omega|(simp;omega)))|refine Bel.call ?_ (by assumption)|(refine EX.bel ?_ (by assumption) ?_;rotate_left;(first|omega|(simp;omega)))))
 ·have hf:mJ root us size=(Pfx.zero,false,iK root us):=by unfold mJ;rw[if_neg h0]
  rw[hf];have bD:=fun W (h:Sl A W 2 Pfx.R uo ucap us)=>iu root us uo ucap W h;obtain⟨c,hc⟩:∃c,c=iK root us:=⟨_,rfl⟩;rw[←hc]at bD h0 ⊢;have bH:(c !=0)=true:=by simpa using h0
  replace bD:=Xk bD;clear hf h0 hc;unfold Pfx.zero Pfx.v;go_enter func238,ntmps238
  go_wp2_with fail
  refine(bD.out _ (h.ext (ag (au _ _) (ag (au _ _) (ag (au _ _) (ag (au _ _) (au _ _))))))).mono ?_;rintro e w1 ⟨rfl,bV⟩;obtain⟨bR,bW⟩:=aI bV;have ce:=bw bV;(try simp only[Xr,aa,Xu,Xs]at bR bW ce)
  go_wp2_with fail
  refine bodyPost_ret ?_ rfl ⟨rfl,Bel.bel (B:=_) ?_⟩
  ·simp[results,results238,go_sem,bR]
  ·(repeat(first|with_reducible assumption|with_reducible exact Bel.refl _|with_reducible refine Bel.alloc ?_ _|with_reducible refine Bel.drewN ?_ _|with_reducible refine Bel.drew ?_|(with_reducible refine ak ?_ ?_ _;rotate_left;(first|omega|(simp;done)|(simp;omega)))|(with_reducible refine Bel.setCell ?_ (p:=_) ?_ _;rotate_left;(first|(simp;done)|omega|(simp;omega)))|refine Bel.call ?_ (by assumption)|(refine EX.bel ?_ (by assumption) ?_;rotate_left;(first|omega|(simp;omega)))))
end
section
open Go.Proofs
def zZ (q p:Pfx):Bool:=oS q.at_ q.len p.at_ p.len
def Aa (p q:Pfx):Bool:=yE p.at_ p.len q.at_ q.len
def fq (root:Pfx):Option Pfx→List Pfx→Bool
 |_,[]=>true
 |none,p::ps=>Aa p root&&fq root (some p) ps
 |some q,p::ps=>Aa p root&&(!(decide (p.at_≤q.at_)||zZ q p)&&fq root (some p) ps)
theorem wU (root p:Pfx)(ps:List Pfx):fq root none (p::ps)=(Aa p root&&fq root (some p) ps):=rfl
theorem wV (root q p:Pfx)(ps:List Pfx):fq root (some q) (p::ps)=(Aa p root&&(!(decide (p.at_≤q.at_)||zZ q p)&&fq root (some p) ps)):=rfl
theorem Jv (root:Pfx)(q:Option Pfx):fq root q []=true:=by cases q<;>rfl
def rZ (root:Pfx)(us:List Pfx):Int:=if us.length>32 then 2 else if bq root.at_ root.len then (if fq root none us then 0 else 1)else 1
def qP (us:List Pfx)(k:Nat):Option Pfx:=if k=0 then none else us[k - 1]?
theorem wW {A:md}(root:Pfx)(us:List Pfx)(uo:Option Addr)(ucap:Nat)(w:World)(h:Sl A w 2 Pfx.R uo ucap us):
 Calls prog 67 #[.agg #[.int .i64 root.at_,.int .i64 root.len,.slice uo us.length ucap]] w fun e w'=>e= .returned (.int .i64 (rZ root us))∧cW w w':=by
 have gA:=h.cap_le;have Ki:=h.cap_max;have H6:=dH root.at_ root.len;by_cases iG:us.length>32
 ·have hr:rZ root us=2:=by unfold rZ;rw[if_pos iG]
  rw[hr];have hI:(32:Int) < (us.length:Int):=by omega
  clear hr iG H6;go_enter func67,ntmps67
  go_wp2_with fail
  go_ret
  refine⟨rfl,Bel.bel (B:=_) ?_⟩;(repeat(first|with_reducible assumption|with_reducible exact Bel.refl _|with_reducible refine Bel.alloc ?_ _|with_reducible refine Bel.drewN ?_ _|with_reducible refine Bel.drew ?_|(with_reducible refine ak ?_ ?_ _;rotate_left;(first|omega|(simp;done)|(simp;omega)))|(with_reducible refine Bel.setCell ?_ (p:=_) ?_ _;rotate_left;(first|(simp;done)|omega|(simp;omega)))|refine Bel.call ?_ (by assumption)|(refine EX.bel ?_ (by assumption) ?_;rotate_left;(first|omega|(simp;omega)))))
 ·have hI:(us.length:Int)≤32:=by omega
  cases hR:bq root.at_ root.len
  case false=>
   have hr:rZ root us=1:=by unfold rZ;rw[if_neg iG,hR];rfl
   rw[hr];rw[hR]at H6;replace H6:=Xk H6;clear hr iG hR;go_enter func67,ntmps67
   go_wp2_with fail
   refine(H6.out _).mono ?_;rintro e w1 ⟨rfl,bV⟩;obtain⟨bR,bW⟩:=aI bV;have ce:=bw bV;(try simp only[Xr,aa,Xu,Xs]at bR bW ce)
   go_wp2_with fail
   go_ret
   refine⟨rfl,Bel.bel (B:=_) ?_⟩;(repeat(first|with_reducible assumption|with_reducible exact Bel.refl _|with_reducible refine Bel.alloc ?_ _|with_reducible refine Bel.drewN ?_ _|with_reducible refine Bel.drew ?_|(with_reducible refine ak ?_ ?_ _;rotate_left;(first|omega|(simp;done)|(simp;omega)))|(with_reducible refine Bel.setCell ?_ (p:=_) ?_ _;rotate_left;(first|(simp;done)|omega|(simp;omega)))|refine Bel.call ?_ (by assumption)|(refine EX.bel ?_ (by assumption) ?_;rotate_left;(first|omega|(simp;omega)))))
  case true=>
   obtain⟨r,hr⟩:∃r,r=rZ root us:=⟨_,rfl⟩;rw[←hr];have yi:r=if fq root none us then 0 else 1:=by rw[hr];unfold rZ;rw[if_neg iG,hR];rfl
   rw[hR]at H6;replace H6:=Xk H6;clear hr iG hR;replace hr:=Xk yi;clear yi;go_enter func67,ntmps67
   go_wp2_with fail
   refine(H6.out _).mono ?_;rintro e w1 ⟨rfl,bV⟩;obtain⟨bR,bW⟩:=aI bV;have ce:=bw bV;(try simp only[Xr,aa,Xu,Xs]at bR bW ce)
   have oh:=ag (au _ _) bV;have l1:w.heap.size < w1.heap.size:=by omega
   go_wp2_with fail
   go_loopw [3] (fun s3 wr=>∃(k:Nat),k≤us.length∧s3= .int .i64 k∧Hid (fq root none us=fq root (qP us k) (us.drop k))∧cW w1 wr) (fun s3 _=>us.length - (intOf s3).toNat)
   case atStart=>exact⟨0,XL _,rfl,Xk rfl,Below.refl _ _⟩
   case round=>
    obtain⟨k,hk,rfl,hu,hx⟩:=hrel;have E8:=ag oh hx;obtain⟨hcr,EN⟩:=aI hx;have hzr:=bw hx;have lr:w.heap.size < wr.heap.size:=by omega
    by_cases hlt:k < us.length
    ·have ec:(k:Int) < (us.length:Int):=by omega
     have E1:us.drop k=us[k]::us.drop (k+1):=YV hlt;have E2:qP us (k+1)=some us[k]:=by unfold qP;rw[if_neg (by omega)];simp[Xj hlt]
     rw[E1]at hu;clear E1;obtain⟨b,off,cs,huo,-,aT,hRR,ly⟩:=h.elem k hlt;replace ly:=fK E8 ly;unfold Pfx.R at hRR;subst hRR;obtain⟨k0,k1⟩:=mI ly;have lb:=dn k0;obtain⟨p,hp⟩:∃p,p=us[k]:=⟨_,rfl⟩;rw[←hp]at k0 k1 hu E2;replace E2:=Xk E2;clear ly hp;have fl:=rT p.at_ p.len root.at_ root.len;obtain⟨q,hq⟩:∃q,q=yE p.at_ p.len root.at_ root.len:=⟨_,rfl⟩;rw[←hq]at fl;match k,hk,hlt with
     |0,hk,hlt=>
      have ym:fq root none us=(q&&fq root (some p) (us.drop 1)):=by rw[hu.out];show fq root none (p::us.drop 1)=_;rw[wU,hq];rfl
      clear hu hq h;subst huo;rw[Nat.zero_mul,X0]at k0 k1;replace fl:=Xk fl;cases q
      case false=>
       have fm:r=1:=by rw[hr.out,ym];rfl
       replace fm:=Xk fm;clear ym hr;go_wp2_with fail
       refine cu (by kernel_rfl) (by kernel_rfl) (fun _ _ d _ _ h=>by cases d<;>exact h) ?_;repeat(first|((first|refine bA rfl rfl rfl (by with_reducible rfl) ?_|refine bB rfl rfl rfl (by with_reducible rfl) ?_|refine bC rfl rfl rfl (by with_reducible rfl) ?_);simp only[Act.put,Xn,Xv,Xw])|(apply cj;(first|exact bp rfl|exact bE rfl rfl rfl (by with_reducible rfl));intro wq cE R hR;((have ee:=(aI cE).1;(try simp only[Xr,aa,Xu,Xs]at ee));go_simp;first|exact hR|((go_at_call 135;exact jS (fl.out _) hR)));simp only[Act.put,Xn,Xv,Xw]))
       refine ep ?_;intro w2 cI;obtain⟨d8,dX⟩:=aI cI;have d4:=bw cI;(try simp only[Xr,aa,Xu,Xs]at d8 dX d4)
       go_wp2_with fail
       go_ret
       exact⟨bM fm.out.symm,ag E8 cI⟩
      case true=>
       have ON:fq root none us=fq root (qP us (0+1)) (us.drop (0+1)):=by rw[ym,E2.out];rfl
       replace ON:=Xk ON;clear ym;go_wp2_with fail
       refine cu (by kernel_rfl) (by kernel_rfl) (fun _ _ d _ _ h=>by cases d<;>exact h) ?_;repeat(first|((first|refine bA rfl rfl rfl (by with_reducible rfl) ?_|refine bB rfl rfl rfl (by with_reducible rfl) ?_|refine bC rfl rfl rfl (by with_reducible rfl) ?_);simp only[Act.put,Xn,Xv,Xw])|(apply cj;(first|exact bp rfl|exact bE rfl rfl rfl (by with_reducible rfl));intro wq cE R hR;((have ee:=(aI cE).1;(try simp only[Xr,aa,Xu,Xs]at ee));go_simp;first|exact hR|((go_at_call 135;exact jS (fl.out _) hR)));simp only[Act.put,Xn,Xv,Xw]))
       refine ep ?_;intro w2 cI;obtain⟨d8,dX⟩:=aI cI;have d4:=bw cI;(try simp only[Xr,aa,Xu,Xs]at d8 dX d4)
       go_wp2_with fail
       go_roundw
       case rel=>exact⟨0+1,by omega,by go_num,ON,ag hx cI⟩
       case measure=>simp[intOf];try omega
     |j+1,hk,hlt=>
      have Pd:j < us.length:=by omega
      obtain⟨b',off',cs',Wz,-,a0W,WA,ve⟩:=h.elem j Pd;rw[huo]at Wz;cases Wz;replace ve:=fK E8 ve;unfold Pfx.R at WA;subst WA;obtain⟨m0,m1⟩:=mI ve;have hpj:qP us (j+1)=some us[j]:=by unfold qP;rw[if_neg (by omega)];simp[Xj Pd]
      rw[hpj]at hu;obtain⟨y,hy⟩:∃y,y=us[j]:=⟨_,rfl⟩;rw[←hy]at m0 m1 hu;clear hpj hy ve h;subst huo;have Pe:=Dt y.at_ y.len p.at_ p.len;obtain⟨t,ht⟩:∃t,t=zZ y p:=⟨_,rfl⟩;have ym:fq root none us=(q&&(!(decide (p.at_≤y.at_)||t)&&fq root (some p) (us.drop (j+1+1)))):=by rw[hu.out,wV,hq,ht];rfl
      unfold zZ at ht;rw[←ht]at Pe;clear hu ht hq;replace fl:=Xk fl;replace Pe:=Xk Pe;have rf:IntKind.i64.wrap (j:Int)=(j:Int):=IntWalk.i64_in _ (by omega);have a1a:IntKind.i64.wrap ((j:Int)+1 - 1)=(j:Int):=by rw[show ((j:Int)+1 - 1)=j from by omega];exact rf
      have hj0:(0:Int)≤(j:Int):=by omega
      have a0X:(0:Int) < (j:Int)+1:=by omega
      have a0Y:(j:Int) < (us.length:Int):=by omega
      have a0Z:(j:Int)+1 < (us.length:Int):=by omega
      have htn:((j:Int)+1).toNat=j+1:=by omega
      have UW:(0:Int)≤(j:Int)+1:=by omega
      clear ec;cases q
      case false=>
       have fm:r=1:=by rw[hr.out,ym];rfl
       replace fm:=Xk fm;clear ym hr;go_wp2_with fail
       refine cu (by kernel_rfl) (by kernel_rfl) (fun _ _ d _ _ h=>by cases d<;>exact h) ?_;repeat(first|((first|refine bA rfl rfl rfl (by with_reducible rfl) ?_|refine bB rfl rfl rfl (by with_reducible rfl) ?_|refine bC rfl rfl rfl (by with_reducible rfl) ?_);simp only[Act.put,Xn,Xv,Xw])|(apply cj;(first|exact bp rfl|exact bE rfl rfl rfl (by with_reducible rfl));intro wq cE R hR;((have ee:=(aI cE).1;(try simp only[Xr,aa,Xu,Xs]at ee));go_simp;first|exact hR|((go_at_call 135;exact jS (fl.out _) hR)));simp only[Act.put,Xn,Xv,Xw]))
       refine ep ?_;intro w2 cI;obtain⟨d8,dX⟩:=aI cI;have d4:=bw cI;(try simp only[Xr,aa,Xu,Xs]at d8 dX d4)
       go_wp2_with fail
       go_ret
       exact⟨bM fm.out.symm,ag E8 cI⟩
      case true=>
       by_cases hge:p.at_≤y.at_
       ·have fm:r=1:=by rw[hr.out,ym];simp[hge]
        replace fm:=Xk fm;clear ym hr;go_wp2_with fail
        refine cu (by kernel_rfl) (by kernel_rfl) (fun _ _ d _ _ h=>by cases d<;>exact h) ?_;repeat(first|((first|refine bA rfl rfl rfl (by with_reducible rfl) ?_|refine bB rfl rfl rfl (by with_reducible rfl) ?_|refine bC rfl rfl rfl (by with_reducible rfl) ?_);simp only[Act.put,Xn,Xv,Xw])|(apply cj;(first|exact bp rfl|exact bE rfl rfl rfl (by with_reducible rfl));intro wq cE R hR;((have ee:=(aI cE).1;(try simp only[Xr,aa,Xu,Xs]at ee));go_simp;first|exact hR|((go_at_call 135;exact jS (fl.out _) hR)));simp only[Act.put,Xn,Xv,Xw]))
        refine ep ?_;intro w2 cI;obtain⟨d8,dX⟩:=aI cI;have d4:=bw cI;(try simp only[Xr,aa,Xu,Xs]at d8 dX d4)
        go_wp2_with fail
        go_ret
        exact⟨bM fm.out.symm,ag E8 cI⟩
       ·have a0C:decide (p.at_≤y.at_)=false:=by simp[hge]
        cases t
        case true=>
         have fm:r=1:=by rw[hr.out,ym];simp
         replace fm:=Xk fm;clear ym hr;go_wp2_with fail
         refine cu (by kernel_rfl) (by kernel_rfl) (fun _ _ d _ _ h=>by cases d<;>exact h) ?_;repeat(first|((first|refine bA rfl rfl rfl (by with_reducible rfl) ?_|refine bB rfl rfl rfl (by with_reducible rfl) ?_|refine bC rfl rfl rfl (by with_reducible rfl) ?_);simp only[Act.put,Xn,Xv,Xw])|(apply cj;(first|exact bp rfl|exact bE rfl rfl rfl (by with_reducible rfl));intro wq cE R hR;((have ee:=(aI cE).1;(try simp only[Xr,aa,Xu,Xs]at ee));go_simp;first|exact hR|(first|(go_at_call 135;exact jS (fl.out _) hR)|(go_at_call 72;exact jS (Pe.out _) hR)));simp only[Act.put,Xn,Xv,Xw]))
         refine ep ?_;intro w2 cI;obtain⟨d8,dX⟩:=aI cI;have d4:=bw cI;(try simp only[Xr,aa,Xu,Xs]at d8 dX d4)
         go_wp2_with fail
         go_ret
         exact⟨bM fm.out.symm,ag E8 cI⟩
        case false=>
         have ON:fq root none us=fq root (qP us (j+1+1)) (us.drop (j+1+1)):=by rw[ym,E2.out,a0C];rfl
         replace ON:=Xk ON;clear ym;go_wp2_with fail
         refine cu (by kernel_rfl) (by kernel_rfl) (fun _ _ d _ _ h=>by cases d<;>exact h) ?_;repeat(first|((first|refine bA rfl rfl rfl (by with_reducible rfl) ?_|refine bB rfl rfl rfl (by with_reducible rfl) ?_|refine bC rfl rfl rfl (by with_reducible rfl) ?_);simp only[Act.put,Xn,Xv,Xw])|(apply cj;(first|exact bp rfl|exact bE rfl rfl rfl (by with_reducible rfl));intro wq cE R hR;((have ee:=(aI cE).1;(try simp only[Xr,aa,Xu,Xs]at ee));go_simp;first|exact hR|(first|(go_at_call 135;exact jS (fl.out _) hR)|(go_at_call 72;exact jS (Pe.out _) hR)));simp only[Act.put,Xn,Xv,Xw]))
         refine ep ?_;intro w2 cI;obtain⟨d8,dX⟩:=aI cI;have d4:=bw cI;(try simp only[Xr,aa,Xu,Xs]at d8 dX d4)
         go_wp2_with fail
         go_roundw
         case rel=>exact⟨j+1+1,by omega,by go_num,ON,ag hx cI⟩
         case measure=>simp[intOf];omega
    ·have ec:¬(k:Int) < (us.length:Int):=by omega
     obtain rfl:k=us.length:=by omega
     have fm:r=0:=by rw[hr.out,hu.out,Zf,Jv];rfl
     replace fm:=Xk fm;clear hr hu;go_wp2_with fail
     go_ret
     exact⟨bM fm.out.symm,E8⟩
end
section
open Go.Proofs
def HA (a b:Pfx):Prop:=a.hi≤b.at_
theorem nx (root:Pfx):∀(us:List Pfx) (f:Int),ir root f us=true↔(∀u∈us,jq u root=true)∧(∀u∈us,f≤u.at_)∧us.Pairwise HA
 |[],f=>by simp[ir]
 |p::ps,f=>by
  rw[ut,Xy,Xy,decide_eq_true_eq,nx root ps,YM];constructor
  ·intro⟨h1,h2,h3,h4,h5⟩;have hp:=p.hi_bd (lJ.1 h1).1;refine⟨?_,?_,⟨fun u hu=>h4 u hu,h5⟩⟩
   ·intro u hu;rcases XY.1 hu with rfl|hu
    ·exact h1
    ·exact h3 u hu
   ·intro u hu;rcases XY.1 hu with rfl|hu
    ·exact h2
    ·have:=h4 u hu;unfold Pfx.hi at hp;omega
  ·intro⟨h1,h2,h3,h4⟩;exact⟨h1 p (by simp),h2 p (by simp),fun u hu=>h1 u (by simp[hu]),fun u hu=>h3 u hu,h4⟩
theorem pH (root:Pfx):∀(us:List Pfx) (q:Pfx),q.right=true→(fq root (some q) us=true↔(∀u∈us,jq u root=true)∧(∀u∈us,q.hi≤u.at_)∧us.Pairwise HA)
 |[],q,_=>by simp[fq]
 |p::ps,q,hq=>by
  have hqb:=q.hi_bd hq;rw[wV,Xy,Xy,YM];have e1:Aa p root=jq p root:=A8 p root;rw[e1];constructor
  ·intro⟨h1,h2,h3⟩;have If:=(lJ.1 h1).1;have hp:=p.hi_bd If;rw[pH root ps p If]at h3;obtain⟨g1,g2,g3⟩:=h3;have h4:q.hi≤p.at_:=by
    simp only[ZV,Zo,decide_eq_false_iff_not]at h2;obtain⟨k1,k2⟩:=h2;have k3:¬q.meets p=true:=by rw[←jr];unfold zZ at k2;rw[k2];simp
    rw[gL]at k3;rcases Int.lt_or_le p.at_ q.hi with h|h
    ·exact absurd ⟨hq,If,by omega,h⟩ k3
    ·exact h
   refine⟨?_,?_,⟨fun u hu=>g2 u hu,g3⟩⟩
   ·intro u hu;rcases XY.1 hu with rfl|hu
    ·exact h1
    ·exact g1 u hu
   ·intro u hu;rcases XY.1 hu with rfl|hu
    ·exact h4
    ·have:=g2 u hu;omega
  ·intro⟨h1,h2,h3,h4⟩;have AC:=h1 p (by simp);have If:=(lJ.1 AC).1;have hqp:=h2 p (by simp);refine⟨AC,?_,(pH root ps p If).2 ⟨fun u hu=>h1 u (by simp[hu]),fun u hu=>h3 u hu,h4⟩⟩;simp only[ZV,Zo,decide_eq_false_iff_not];refine⟨by omega,?_⟩;unfold zZ;rw[jr,YK];intro h;have:=(gL.1 h).2.2;omega
theorem Qk (root:Pfx)(us:List Pfx):fq root none us=ir root root.at_ us:=by
 rw[Yl,nx];cases us with
 |nil=>simp[fq]
 |cons p ps=>
  rw[wU,Xy,YM];have e1:Aa p root=jq p root:=A8 p root;rw[e1];constructor
  ·intro⟨h1,h2⟩;obtain⟨k1,k2,k3,k4⟩:=lJ.1 h1;have hp:=p.hi_bd k1;rw[pH root ps p k1]at h2;obtain⟨g1,g2,g3⟩:=h2;refine⟨?_,?_,⟨fun u hu=>g2 u hu,g3⟩⟩
   ·intro u hu;rcases XY.1 hu with rfl|hu
    ·exact h1
    ·exact g1 u hu
   ·intro u hu;rcases XY.1 hu with rfl|hu
    ·exact k3
    ·have:=g2 u hu;omega
  ·intro⟨h1,h2,h3,h4⟩;have AC:=h1 p (by simp);exact⟨AC,(pH root ps p (lJ.1 AC).1).2 ⟨fun u hu=>h1 u (by simp[hu]),fun u hu=>h3 u hu,h4⟩⟩
theorem Ql (root:Pfx)(us:List Pfx):rZ root us=iK root us:=by
 unfold rZ iK;rw[Qk];by_cases h:us.length>32
 ·rw[if_pos h,if_pos h]
 ·rw[if_neg h,if_neg h];unfold bq;by_cases h2:chk root.at_ root.len=0
  ·simp[h2]
  ·simp[h2]
structure SpaceOK (root:Pfx)(us:List Pfx):Prop where
 rr:root.right=true
 many:us.length≤32
 ins:∀u∈us,jq u root=true
 apart:us.Pairwise HA
theorem Bg {root:Pfx}{us:List Pfx}:iK root us=0↔SpaceOK root us:=by
 unfold iK;constructor
 ·intro h;split at h
  ·omega
  ·rename_i h1;split at h
   ·rename_i h2;split at h
    ·rename_i h3;obtain⟨g1,g2,g3⟩:=(nx root us _).1 h3;exact⟨by simp[Pfx.right,bq,h2],by omega,g1,g3⟩
    ·omega
   ·omega
 ·intro⟨h1,h2,h3,h4⟩;have hc:chk root.at_ root.len=0:=by unfold Pfx.right bq at h1;simpa using h1
  rw[if_neg (by omega),if_pos hc,if_pos ((nx root us _).2 ⟨h3,fun u hu=>(lJ.1 (h3 u hu)).2.2.1,h4⟩)]
end
theorem Jw (root:Pfx)(us:List Pfx):ae prog 115 [.agg (IT root us)] (.v (.int .i64 (iK root us))):=by
 refine⟨bU func115 (by kernel_rfl) rfl,fun M w vs hM hG dI=>?_⟩;obtain⟨v,vs,rfl,h1,dI⟩:=eC dI;rw[ko dI];obtain⟨uo,cap,rfl,hs⟩:=FC h1;exact(iu root us uo cap w hs).mono fun e w' ⟨he,hx⟩=>⟨_,he,.v _,hx⟩
theorem Bh (root:Pfx)(us:List Pfx):ae prog 67 [.agg (IT root us)] (.v (.int .i64 (iK root us))):=by
 refine⟨bU func67 (by kernel_rfl) rfl,fun M w vs hM hG dI=>?_⟩;obtain⟨v,vs,rfl,h1,dI⟩:=eC dI;rw[ko dI];obtain⟨uo,cap,rfl,hs⟩:=FC h1;have:=wW root us uo cap w hs;rw[Ql]at this;exact this.mono fun e w' ⟨he,hx⟩=>⟨_,he,.v _,hx⟩
theorem Qm (root:Pfx)(us:List Pfx)(size:Int):ae prog 238 [.agg (IT root us),.v (.int .i64 size)] (.tup [.agg (aK (mJ root us size).1),.v (.bool (mJ root us size).2.1),.v (.int .i64 (mJ root us size).2.2)]):=by
 refine⟨bU func238 (by kernel_rfl) rfl,fun M w vs hM hG dI=>?_⟩;obtain⟨v,vs,rfl,h1,dI⟩:=eC dI;obtain⟨v,vs,rfl,h2,dI⟩:=eC dI;rw[ko dI];obtain⟨uo,cap,rfl,hs⟩:=FC h1;rw[oP h2];exact(Qj root us uo cap size w hs).mono fun e w' ⟨he,hx⟩=>⟨_,he,Hc rfl rfl,hx⟩
def iw:List Int→Bool
 |a::b::l=>decide (a≤b)&&iw (b::l)
 |_=>true
theorem qQ:∀(l:List Int),iw l=true↔∀j (h:j+1 < l.length),l[j]≤l[j+1]
 |[]=>by simp[iw]
 |[a]=>by simp[iw]
 |a::b::l=>by
  have ih:=qQ (b::l);simp only[iw,Xy,decide_eq_true_eq,ih];constructor
  ·rintro⟨h1,h2⟩ j hj;cases j with
   |zero=>exact h1
   |succ j=>exact h2 j (by simpa using hj)
  ·intro h;exact⟨h 0 (by simp),fun j hj=>h (j+1) (by simpa using hj)⟩
theorem F2 (l:List Int)(hl:l.length≤1000000000)(h0:l≠[]):ae prog 204 [.sl 1 (l.map fun n=>[Vf n])] (.v (.bool (iw l))):=by
 have RL:0 < l.length:=Zh.2 h0;have Uc:IntKind.i64.wrap ((l.length:Int) - 1)=((l.length - 1:Nat):Int):=by rw[IntKind.wrap_i64];omega
 refine pj func204 ntmps204 results204 ?_;refine ay ?_<;>intros;refine cf af al (fun m e h=>∃i:Nat,i < l.length∧(∀j (h:j+1 < l.length),i≤j→l[j]≤l[j+1])∧m=i∧e=[(3,.d (.v (.int .i64 i))),(2,.d (.v (.bool false))),(0,.d (.sl 1 (l.map fun n=>[Vf n])))]∧h=[]) _ _ _ ⟨l.length - 1,by omega,fun j h1 h2=>by omega,rfl,rfl,rfl⟩ ?_ ?_
 ·exact wf (x:=[]) (hh:=rfl) (he:=⟨rfl,rfl,rfl,trivial⟩)
 ·rintro m e h ⟨i,hi,cC,hm,rfl,rfl⟩ CL m5;by_cases p3:0 < i
  ·obtain⟨x,hx⟩:∃x,l[i]? =some x:=⟨_,Xj hi⟩;obtain⟨y,hy⟩:∃y,l[i - 1]? =some y:=⟨_,Xj (by omega)⟩;have od:l[i]=x:=by rw[Xj hi]at hx;exact XX.inj hx
   have yj:l[i - 1]=y:=by rw[Xj (by omega)]at hy;exact XX.inj hy
   have hgt:decide ((i:Int)>0)=true:=by simpa using p3
   have hw:IntKind.i64.wrap ((i:Int) - 1)=((i - 1:Nat):Int):=by rw[IntKind.wrap_i64];omega
   cases hlt:decide (x < y)with
   |true=>
    have Uo:iw l=false:=by
     rw[YK,ne_eq,qQ];intro h;have:=h (i - 1) (by omega);simp only[show i - 1+1=i by omega,od,yj]at this;simp at hlt;omega
    have tZ:=MJ x y;rw[hlt]at tZ;exact bo;all_goals(rw[Uo];exact ap.refl _)
   |false=>
    have tZ:=MJ x y;rw[hlt]at tZ;refine ay ?_<;>intros;refine m5 _ _ _ _ _ ?_ ⟨i - 1,by omega,?_,rfl,rfl,rfl⟩ (wf (x:=[]) (hh:=rfl) (he:=⟨rfl,rfl,rfl,trivial⟩))
    ·omega
    ·intro j hj hij;rcases XO (i - 1) j with h1|h1
     ·exact cC j hj (by omega)
     ·obtain rfl:j=i - 1:=by omega
      simp only[show i - 1+1=i by omega,od,yj];simp at hlt;omega
  ·have Xg:i=0:=by omega
   have WB:iw l=true:=(qQ l).2 fun j hj=>cC j hj (by omega);have hgt:decide ((i:Int)>0)=false:=by simp;omega
   replace Xg:=Xk Xg;exact bo;all_goals(rw[WB];exact ap.refl _)
def fL (n:Int):Bool:=decide (1≤n)&&decide (n≤65536)
theorem Ab (n:Int):ae prog 114 [.v (.int .i64 n)] (.v (.bool (fL n))):=by
 cases e1:decide (n≥1)with
 |true=>
  have h1:decide (1≤n)=true:=e1;refine pj func114 ntmps114 results114 ?_;refine ay ?_<;>intros;all_goals(unfold fL;rw[h1];exact ap.refl _)
 |false=>
  have h1:decide (1≤n)=false:=e1;refine pj func114 ntmps114 results114 ?_;refine ay ?_<;>intros;all_goals(unfold fL;rw[h1];exact ap.refl _)
def iy (r:Rul)(len:Int):Bool:=iw [len,r.min,r.usual,r.max,16]&&(decide (0≤r.cool)&&decide (r.cool≤1024))
theorem F3 (r:Rul)(root:Pfx):ae prog 117 [.agg (A4 r),.agg (aK root)] (.v (.bool (iy r root.len))):=by
 have hs:=F2 [root.len,r.min,r.usual,r.max,16] (by simp) (by simp);unfold iy;cases h0:iw [root.len,r.min,r.usual,r.max,16]with
 |false=>
  rw[h0]at hs;refine pj func117 ntmps117 results117 ?_;exact bo;all_goals exact ap.refl _
 |true=>
  rw[h0]at hs;show ae _ _ _ (.v (.bool (true&&(decide (r.cool≥0)&&decide (r.cool≤1024)))));cases e1:decide (r.cool≥0)with
  |true=>
   refine pj func117 ntmps117 results117 ?_;exact bo;all_goals exact ap.refl _
  |false=>
   refine pj func117 ntmps117 results117 ?_;exact bo;all_goals exact ap.refl _
def eE (p:Pol):List Pfx:=p.leases.map (·.at_)
theorem HB (p:Pol)(hb:p.leases.length≤3518437208882):ae prog 116 [.ept (am p)] (.agg (IT p.root (eE p))):=by
 refine pj func116 ntmps116 results116 ?_;refine ay ?_<;>intros;refine cf af al (fun m e h=>∃k g:Nat,k≤p.leases.length∧m=p.leases.length - k∧e=[(16,.d (.v (.int .i64 k))),(15,.d (.v (.int .i64 p.leases.length))),(14,.d (.sl 5 (p.leases.map aQ))),(3,.ptr 1 0),(2,.ptr 0 0)]∧
  h=[.box 149 [.d (.v (.int .i64 0)),.d (.v (.int .i64 0)),.d (.v (.slice none 0 0))],.box 149 [.d (.v (.int .i64 p.root.at_)),.d (.v (.int .i64 p.root.len)),.own 2 g],.row 23 2 g (ab (((eE p).take k).map aK))]) _ _ _ ⟨0,0,XL _,rfl,rfl,rfl⟩ ?_ ?_
 ·exact(aL (by simp) 1 _ _ 2 _ _ rfl rfl rfl).trans (wf (x:=[]) (hh:=rfl) (he:=⟨rfl,rfl,rfl,rfl,rfl,trivial⟩))
 ·rintro m e h ⟨k,g,hk,hm,rfl,rfl⟩ CL m5;by_cases hlt:k < p.leases.length
  ·obtain⟨l,hl⟩:∃l,p.leases[k]? =some l:=⟨_,Xj hlt⟩;have ec:(k:Int) < (p.leases.length:Int):=by omega
   have dW:=wi k (by omega);have sF:(((eE p).take k).length+1)*16≤140737488355328:=by rw[Xp,eE,XF];omega
   refine ay ?_<;>intros;have UX:(eE p).take (k+1)=(eE p).take k++[l.at_]:=ah (by rw[eE,XA,hl];rfl);refine m5 _ _ _ _ _ ?_ ⟨k+1,g+1,hlt,rfl,rfl,rfl⟩ (wf (x:=[.box 96 ((aQ l).map .d)]) (hh:=?_) (he:=⟨rfl,rfl,rfl,rfl,rfl,trivial⟩))
   ·omega
   ·rw[UX,Xz];rfl
  ·obtain rfl:k=p.leases.length:=by omega
   refine ay ?_<;>intros;rw[XI (by simp[eE])];all_goals exact ap.refl _
theorem kW (p:Lse):(aQ p).length=5:=rfl
theorem kX (p:Pol):(am p).length=9:=rfl
theorem Bi {α:Type}{enc:α→List D}(l:List α)(i j g:Nat)(hi:i < l.length)(hj:j=i+1):
 MSpec prog 242 [.own 0 g,.d (.v (.int .i64 i)),.d (.v (.int .i64 j))] [.row 96 5 g (ab (l.map enc))] (.own 0 (g+1)) [.row 96 5 (g+1) (ab ((l.eraseIdx i).map enc))]:=by
 have h1:((i:Int)==(j:Int))=false:=by simp;omega
 have bH:¬ab (l.map enc)=[]:=by cases l<;>simp[ab]at hi ⊢
 have hle:(i:Int)≤(j:Int):=by omega
 have Ou:(j:Int)≤(l.length:Int):=by omega
 have mc:(l.map enc).length=l.length:=XF _;have h2:=pB (ab (l.map enc)) i j l.length (by rw[aC,mc];exact hi) hj (by rw[aC,mc]);rw[aC,mc]at h2;have sH:=Xk hj;clear hj;have KH:j≤l.length:=by have:=sH.out;omega
 have RR:min (l.length - j) (l.length - j)=l.length - j:=z' _;have hlt:i+(l.length - j)≤l.length:=by have:=sH.out;omega
 have qr:l.length - (i+(l.length - j))=1:=by have:=sH.out;omega
 have mX:i+(l.length - j)+1≤l.length:=by have:=sH.out;omega
 have RS:¬av (ab (l.map enc)) i (((ab (l.map enc)).drop j).take (l.length - j))=[]:=by
  intro h;rw[h]at h2;simp at h2;omega
 refine mj func242 ntmps242 results242 ?_;repeat' (first|(with_reducible refine And.intro ?_ ?_)|(with_reducible refine dO (fun _=>?_) (fun _=>?_))|(with_reducible refine aN (fun _=>?_) (fun _=>?_))|(with_reducible refine cg (by kernel_rfl))|simp -dsimp only[go_sem,seval, *,h1,bH,Yr,Xp,XS]|((with_reducible refine ci ?_);simp -dsimp only[go_sem,seval,h1,bH,Yr,Xp,XS];first|refine aP (by first|assumption|fail) (by first|exact .inl rfl|exact .inr rfl) ?_|refine aO (by assumption) (by repeat(first|exact ap.refl _|exact ap.nil _|(refine ap.tup ?_)|(refine ap.agg ?_ rfl)|exact trivial|(refine And.intro ?_ ?_))) (by first|exact .inl rfl|exact .inr rfl) ?_)|omega|exact decide_eq_true (by omega)|exact ap.refl _)
 rw[kr];exact oR (by rw[mc];exact hi) sH.out mc.symm
theorem gN {α:Type}(enc:α→List D)(l:List α)(hl:l.length≤1000000000):
 MSpec prog 89 [.d (.sl 5 (l.map enc))] [] (.own 0 1) [.row 96 5 1 (ab (l.map enc))]:=by
 cases l with
 |nil=>
  refine rN (pl:=[]) (ql:=[]) fun ao cap=>?_;cases ao with
  |none=>
   simp only[Ye];refine mj func89 ntmps89 results89 ?_;repeat' (first|(with_reducible refine And.intro ?_ ?_)|(with_reducible refine dO (fun _=>?_) (fun _=>?_))|(with_reducible refine aN (fun _=>?_) (fun _=>?_))|(with_reducible refine cg (by kernel_rfl))|simp -dsimp only[go_sem,seval, *,Zm,XJ]|((with_reducible refine ci ?_);simp -dsimp only[go_sem,seval,Zm,XJ];first|refine aP (by first|assumption|fail) (by first|exact .inl rfl|exact .inr rfl) ?_|refine aO (by assumption) (by repeat(first|exact ap.refl _|exact ap.nil _|(refine ap.tup ?_)|(refine ap.agg ?_ rfl)|exact trivial|(refine And.intro ?_ ?_))) (by first|exact .inl rfl|exact .inr rfl) ?_)|omega|exact decide_eq_true (by omega)|exact ap.refl _)
   refine ik (h:=[]) (XC _) 96 5 ?_;exact(fg 0 0 96 5 [] rfl (aV rfl rfl))
  |some a=>
   simp only[Ye];refine mj func89 ntmps89 results89 ?_;repeat' (first|(with_reducible refine And.intro ?_ ?_)|(with_reducible refine dO (fun _=>?_) (fun _=>?_))|(with_reducible refine aN (fun _=>?_) (fun _=>?_))|(with_reducible refine cg (by kernel_rfl))|simp -dsimp only[go_sem,seval, *,Yv,XJ]|((with_reducible refine ci ?_);simp -dsimp only[go_sem,seval,Yv,XJ];first|refine aP (by first|assumption|fail) (by first|exact .inl rfl|exact .inr rfl) ?_|refine aO (by assumption) (by repeat(first|exact ap.refl _|exact ap.nil _|(refine ap.tup ?_)|(refine ap.agg ?_ rfl)|exact trivial|(refine And.intro ?_ ?_))) (by first|exact .inl rfl|exact .inr rfl) ?_)|omega|exact decide_eq_true (by omega)|exact ap.refl _)
   exact aV rfl rfl
 |cons x l=>
  simp only[XD]at hl;refine mj func89 ntmps89 results89 ?_;repeat' (first|(with_reducible refine And.intro ?_ ?_)|(with_reducible refine dO (fun _=>?_) (fun _=>?_))|(with_reducible refine aN (fun _=>?_) (fun _=>?_))|(with_reducible refine cg (by kernel_rfl))|simp -dsimp only[go_sem,seval, *,Yv,XJ]|((with_reducible refine ci ?_);simp -dsimp only[go_sem,seval,Yv,XJ];first|refine aP (by first|assumption|fail) (by first|exact .inl rfl|exact .inr rfl) ?_|refine aO (by assumption) (by repeat(first|exact ap.refl _|exact ap.nil _|(refine ap.tup ?_)|(refine ap.agg ?_ rfl)|exact trivial|(refine And.intro ?_ ?_))) (by first|exact .inl rfl|exact .inr rfl) ?_)|omega|exact decide_eq_true (by omega)|exact ap.refl _)
  all_goals first|omega|exact aV rfl rfl
theorem F4 (p:Lse→Bool)(l:List Lse)(k g fn:Nat)(caps:List PV)(h:List Chunk)(hk:aw h k= .row 96 5 g (ab (l.map aQ)))(Ib:ai h.length caps=true)(hbh:az h.length h=true)(hl:l.length≤1000000000)
 (h5:∃ds,cA (aS (aw h) 5) caps=some ds∧∀x∈l,ae prog fn (.agg (aQ x)::ds) (.v (.bool (p x))))
 (h6:∀(m:List Lse) (b:Chunk),∃ds,cA (vw (aw (bu h k (.row 96 5 g (ab (m.map aQ)))++[b]))) caps=some ds∧∀x∈l,ae prog fn (.agg (aQ x)::ds) (.v (.bool (p x)))):
 MSpec prog 169 [.own k g,.clo fn caps] h (.own k (g+1)) (bu h k (.row 96 5 (g+1) (ab ((l.filter fun x=>!p x).map aQ)))):=by
 have hlt:k < h.length:=py (by rw[hk];simp);obtain⟨ds,ES,B6⟩:=h5;have ot:=nu kW p l fn ds hl B6;have hle:h.length≤(bu h k (.row 96 5 (g+1) (ab ((l.filter fun x=>!p x).map aQ)))).length:=by rw[rK hlt];exact XC _
 have BR:ai h.length [.own k g,.clo fn caps]=true:=by simp only[ai,aj,hlt,Ib,decide_true,Yn]
 unfold db at ot;cases hf:l.findIdx? p with
 |none=>
  rw[hf]at ot;replace hf:=Xk hf;refine Dh af al func169 rfl ntmps169 results169 (by kernel_rfl) hle BR hbh ?_;repeat' (first|(with_reducible refine And.intro ?_ ?_)|(with_reducible refine dO (fun _=>?_) (fun _=>?_))|(with_reducible refine aN (fun _=>?_) (fun _=>?_))|(with_reducible refine cg (by kernel_rfl))|simp -dsimp only[go_sem,seval, *,hk,ES]|((with_reducible refine ci ?_);simp -dsimp only[go_sem,seval,hk,ES];first|refine aP (by first|assumption|exact ot) (by first|exact .inl rfl|exact .inr rfl) ?_|refine aO (by assumption) (by repeat(first|exact ap.refl _|exact ap.nil _|(refine ap.tup ?_)|(refine ap.agg ?_ rfl)|exact trivial|(refine And.intro ?_ ?_))) (by first|exact .inl rfl|exact .inr rfl) ?_)|omega|exact decide_eq_true (by omega)|exact ap.refl _)
  have he:(l.filter fun x=>!p x)=l:=List.filter_eq_self.2 fun x hx=>by
   have:=Yx.1 hf.out x hx;simp[this]
  rw[he];exact fg k g _ _ _ hk (aV rfl rfl)
 |some i0=>
  rw[hf]at ot;have fU:=zJ hf;replace hf:=Xk hf;have OO:((i0:Int)== -1)=false:=by rw[beq_eq_false_iff_ne];omega
  have bV:=wi i0 (by omega);obtain⟨ga,gb,gc,gd,ge,gf,gg,gi⟩:=S6 hlt;refine Dh af al func169 rfl ntmps169 results169 (by kernel_rfl) hle BR hbh ?_;have fU:=Xk fU;repeat' (first|(with_reducible refine And.intro ?_ ?_)|(with_reducible refine dO (fun _=>?_) (fun _=>?_))|(with_reducible refine aN (fun _=>?_) (fun _=>?_))|(with_reducible refine cg (by kernel_rfl))|simp -dsimp only[go_sem,seval, *,hk,ES,OO,bV]|((with_reducible refine ci ?_);simp -dsimp only[go_sem,seval,hk,ES,OO,bV];first|refine aP (by first|assumption|exact ot) (by first|exact .inl rfl|exact .inr rfl) ?_|refine aO (by assumption) (by repeat(first|exact ap.refl _|exact ap.nil _|(refine ap.tup ?_)|(refine ap.agg ?_ rfl)|exact trivial|(refine And.intro ?_ ?_))) (by first|exact .inl rfl|exact .inr rfl) ?_)|omega|exact decide_eq_true (by omega)|exact ap.refl _)
  refine cf af al (fun m e h'=>∃j,j≤l.length∧i0 < j∧m=l.length - j∧e=[(6,.d (.v (.int .i64 j))),(5,.d (.v (.int .i64 (cp p l j).length))),(4,.d (.v (.slice none 0 0))),(1,.clo fn caps),(0,.own k g)]∧h'=bu h k (.row 96 5 g (ab ((gn p l j).map aQ)))) (l.length - (i0+1)) _ _ ⟨i0+1,fU.out.1,by omega,rfl,rfl,rfl⟩ ?_ ?_
  ·rw[fU.out.2.1,fU.out.2.2];refine dQ [] (by rw[gb];exact XC _) (by rw[tn h k _ hk hlt,Ya]) ⟨rfl,rfl,rfl,rfl,rfl,trivial⟩ (by rw[gb];simp only[dY,aj,hlt,Ib,decide_true,Yn]) (by rw[gb];exact fF _ _ _ _ hbh (by simp only[aH,aq]) hlt)
  ·rintro m e h' ⟨j,hj,hij,rfl,rfl,rfl⟩ C hC;have Kl:=vm p l j;have lz:=Hi p l j;by_cases Pd:j < l.length
   ·obtain⟨x,hx⟩:∃x,l[j]? =some x:=⟨_,Xj Pd⟩;have ET:(gn p l j)[j]? =some x:=by rw[Hj p l j j Kl.1];exact hx
    obtain⟨y,tY⟩:∃y,(gn p l j)[(cp p l j).length]? =some y:=⟨_,Xj (by omega)⟩;have mb:(j:Int) < (l.length:Int):=by omega
    have cI:=wi j (by omega);have pP:IntKind.i64.wrap (((cp p l j).length:Int)+1)=(((cp p l j).length+1:Nat):Int):=by rw[IntKind.wrap_i64];omega
    have mX:(cp p l j).length < l.length:=by omega
    obtain⟨ds2,RN,hd4⟩:=h6 (gn p l j) (.box 96 ((aQ x).map .d));have ji:=hd4 x (Xl hx);have hx:=Xk hx;have bO:=cL aQ (gn p l j) (cp p l j).length x;simp only[aQ,Xm,Xx]at RN ji bO;repeat' (first|(with_reducible refine And.intro ?_ ?_)|(with_reducible refine dO (fun _=>?_) (fun _=>?_))|(with_reducible refine aN (fun _=>?_) (fun _=>?_))|(with_reducible refine cg (by kernel_rfl))|simp -dsimp only[go_sem,seval, *,aQ,ET,tY,mb,cI,pP,RN,lz,gb]|((with_reducible refine ci ?_);simp -dsimp only[go_sem,seval,aQ,ET,tY,mb,cI,pP,RN,lz,gb];first|refine aP (by first|assumption|exact ji) (by first|exact .inl rfl|exact .inr rfl) ?_|refine aO (by assumption) (by repeat(first|exact ap.refl _|exact ap.nil _|(refine ap.tup ?_)|(refine ap.agg ?_ rfl)|exact trivial|(refine And.intro ?_ ?_))) (by first|exact .inl rfl|exact .inr rfl) ?_)|omega|exact decide_eq_true (by omega)|exact ap.refl _)
    ·rename_i hp;obtain⟨q1,q2⟩:=R8 hx.out hp;refine hC _ _ _ _ _ (by omega) ⟨j+1,by omega,by omega,rfl,rfl,rfl⟩ ?_;rw[q1,q2];exact dQ _ (by rw[gb];exact XC _) rfl ⟨rfl,rfl,rfl,rfl,rfl,trivial⟩ (by rw[gb];simp only[dY,aj,hlt,Ib,decide_true,Yn,Yz]) (by rw[gb];exact fF _ _ _ _ hbh (by simp only[aH,aq]) hlt)
    ·rename_i hp;obtain⟨q1,q2⟩:=R9 hx.out hp;refine hC _ _ _ _ _ (by omega) ⟨j+1,by omega,by omega,rfl,rfl,rfl⟩ ?_;rw[q1,q2];exact dQ _ (by rw[gb];exact XC _) rfl ⟨rfl,rfl,rfl,rfl,rfl,trivial⟩ (by rw[gb];simp only[dY,aj,hlt,Ib,decide_true,Yn,Yz]) (by rw[gb];exact fF _ _ _ _ hbh (by simp only[aH,aq]) hlt)
   ·obtain rfl:j=l.length:=by omega
    have hm0:gn p l l.length≠[]:=fun e=>by rw[e]at lz;simp at lz;omega
    have hn1:¬ab ((gn p l l.length).map aQ)=[]:=by simpa[ab]using hm0
    have H5:∀z:List PV,(av (ab ((gn p l l.length).map aQ)) (cp p l l.length).length (XR (l.length - (cp p l l.length).length) z)).length=l.length:=fun z=>by
     rw[aR (by simp[aC,lz];omega)];simp[aC,lz]
    have H4:∀z:List PV,¬av (ab ((gn p l l.length).map aQ)) (cp p l l.length).length (XR (l.length - (cp p l l.length).length) z)=[]:=fun z e=>by
     have:=H5 z;rw[e]at this;simp at this;omega
    repeat' (first|(with_reducible refine And.intro ?_ ?_)|(with_reducible refine dO (fun _=>?_) (fun _=>?_))|(with_reducible refine aN (fun _=>?_) (fun _=>?_))|(with_reducible refine cg (by kernel_rfl))|simp -dsimp only[go_sem,seval, *,aQ,YZ,lz,gb]|((with_reducible refine ci ?_);simp -dsimp only[go_sem,seval,aQ,YZ,lz,gb];first|refine aP (by first|assumption|fail) (by first|exact .inl rfl|exact .inr rfl) ?_|refine aO (by assumption) (by repeat(first|exact ap.refl _|exact ap.nil _|(refine ap.tup ?_)|(refine ap.agg ?_ rfl)|exact trivial|(refine And.intro ?_ ?_))) (by first|exact .inl rfl|exact .inr rfl) ?_)|omega|exact decide_eq_true (by omega)|exact ap.refl _)
    have bZ:=zL p l;rw[←bZ,Zz];exact zM hlt (by simp[lz];omega) (by simpa using hm0) (by simp[lz])
theorem Ac (p:Pol→Bool)(l:List Pol)(k g fn:Nat)(caps:List PV)(h:List Chunk)(hk:aw h k= .row 83 9 g (ab (l.map am)))(Ib:ai h.length caps=true)(hbh:az h.length h=true)(hl:l.length≤1000000000)
 (h5:∃ds,cA (aS (aw h) 5) caps=some ds∧∀x∈l,ae prog fn (.agg (am x)::ds) (.v (.bool (p x))))
 (h6:∀(m:List Pol) (b:Chunk),∃ds,cA (vw (aw (bu h k (.row 83 9 g (ab (m.map am)))++[b]))) caps=some ds∧∀x∈l,ae prog fn (.agg (am x)::ds) (.v (.bool (p x)))):
 MSpec prog 167 [.own k g,.clo fn caps] h (.own k (g+1)) (bu h k (.row 83 9 (g+1) (ab ((l.filter fun x=>!p x).map am)))):=by
 have hlt:k < h.length:=py (by rw[hk];simp);obtain⟨ds,ES,B6⟩:=h5;have ot:=zV kX p l fn ds hl B6;have hle:h.length≤(bu h k (.row 83 9 (g+1) (ab ((l.filter fun x=>!p x).map am)))).length:=by rw[rK hlt];exact XC _
 have BR:ai h.length [.own k g,.clo fn caps]=true:=by simp only[ai,aj,hlt,Ib,decide_true,Yn]
 unfold db at ot;cases hf:l.findIdx? p with
 |none=>
  rw[hf]at ot;replace hf:=Xk hf;refine Dh af al func167 rfl ntmps167 results167 (by kernel_rfl) hle BR hbh ?_;repeat' (first|(with_reducible refine And.intro ?_ ?_)|(with_reducible refine dO (fun _=>?_) (fun _=>?_))|(with_reducible refine aN (fun _=>?_) (fun _=>?_))|(with_reducible refine cg (by kernel_rfl))|simp -dsimp only[go_sem,seval, *,hk,ES]|((with_reducible refine ci ?_);simp -dsimp only[go_sem,seval,hk,ES];first|refine aP (by first|assumption|exact ot) (by first|exact .inl rfl|exact .inr rfl) ?_|refine aO (by assumption) (by repeat(first|exact ap.refl _|exact ap.nil _|(refine ap.tup ?_)|(refine ap.agg ?_ rfl)|exact trivial|(refine And.intro ?_ ?_))) (by first|exact .inl rfl|exact .inr rfl) ?_)|omega|exact decide_eq_true (by omega)|exact ap.refl _)
  have he:(l.filter fun x=>!p x)=l:=List.filter_eq_self.2 fun x hx=>by
   have:=Yx.1 hf.out x hx;simp[this]
  rw[he];exact fg k g _ _ _ hk (aV rfl rfl)
 |some i0=>
  rw[hf]at ot;have fU:=zJ hf;replace hf:=Xk hf;have OO:((i0:Int)== -1)=false:=by rw[beq_eq_false_iff_ne];omega
  have bV:=wi i0 (by omega);obtain⟨ga,gb,gc,gd,ge,gf,gg,gi⟩:=S6 hlt;refine Dh af al func167 rfl ntmps167 results167 (by kernel_rfl) hle BR hbh ?_;have fU:=Xk fU;repeat' (first|(with_reducible refine And.intro ?_ ?_)|(with_reducible refine dO (fun _=>?_) (fun _=>?_))|(with_reducible refine aN (fun _=>?_) (fun _=>?_))|(with_reducible refine cg (by kernel_rfl))|simp -dsimp only[go_sem,seval, *,hk,ES,OO,bV]|((with_reducible refine ci ?_);simp -dsimp only[go_sem,seval,hk,ES,OO,bV];first|refine aP (by first|assumption|exact ot) (by first|exact .inl rfl|exact .inr rfl) ?_|refine aO (by assumption) (by repeat(first|exact ap.refl _|exact ap.nil _|(refine ap.tup ?_)|(refine ap.agg ?_ rfl)|exact trivial|(refine And.intro ?_ ?_))) (by first|exact .inl rfl|exact .inr rfl) ?_)|omega|exact decide_eq_true (by omega)|exact ap.refl _)
  refine cf af al (fun m e h'=>∃j,j≤l.length∧i0 < j∧m=l.length - j∧e=[(6,.d (.v (.int .i64 j))),(5,.d (.v (.int .i64 (cp p l j).length))),(4,.d (.v (.slice none 0 0))),(1,.clo fn caps),(0,.own k g)]∧h'=bu h k (.row 83 9 g (ab ((gn p l j).map am)))) (l.length - (i0+1)) _ _ ⟨i0+1,fU.out.1,by omega,rfl,rfl,rfl⟩ ?_ ?_
  ·rw[fU.out.2.1,fU.out.2.2];refine dQ [] (by rw[gb];exact XC _) (by rw[tn h k _ hk hlt,Ya]) ⟨rfl,rfl,rfl,rfl,rfl,trivial⟩ (by rw[gb];simp only[dY,aj,hlt,Ib,decide_true,Yn]) (by rw[gb];exact fF _ _ _ _ hbh (by simp only[aH,aq]) hlt)
  ·rintro m e h' ⟨j,hj,hij,rfl,rfl,rfl⟩ C hC;have Kl:=vm p l j;have lz:=Hi p l j;by_cases Pd:j < l.length
   ·obtain⟨x,hx⟩:∃x,l[j]? =some x:=⟨_,Xj Pd⟩;have ET:(gn p l j)[j]? =some x:=by rw[Hj p l j j Kl.1];exact hx
    obtain⟨y,tY⟩:∃y,(gn p l j)[(cp p l j).length]? =some y:=⟨_,Xj (by omega)⟩;have mb:(j:Int) < (l.length:Int):=by omega
    have cI:=wi j (by omega);have pP:IntKind.i64.wrap (((cp p l j).length:Int)+1)=(((cp p l j).length+1:Nat):Int):=by rw[IntKind.wrap_i64];omega
    have mX:(cp p l j).length < l.length:=by omega
    obtain⟨ds2,RN,hd4⟩:=h6 (gn p l j) (.box 83 ((am x).map .d));have ji:=hd4 x (Xl hx);have hx:=Xk hx;have bO:=cL am (gn p l j) (cp p l j).length x;simp only[am,Xm,Xx]at RN ji bO;repeat' (first|(with_reducible refine And.intro ?_ ?_)|(with_reducible refine dO (fun _=>?_) (fun _=>?_))|(with_reducible refine aN (fun _=>?_) (fun _=>?_))|(with_reducible refine cg (by kernel_rfl))|simp -dsimp only[go_sem,seval, *,am,ET,tY,mb,cI,pP,RN,lz,gb]|((with_reducible refine ci ?_);simp -dsimp only[go_sem,seval,am,ET,tY,mb,cI,pP,RN,lz,gb];first|refine aP (by first|assumption|exact ji) (by first|exact .inl rfl|exact .inr rfl) ?_|refine aO (by assumption) (by repeat(first|exact ap.refl _|exact ap.nil _|(refine ap.tup ?_)|(refine ap.agg ?_ rfl)|exact trivial|(refine And.intro ?_ ?_))) (by first|exact .inl rfl|exact .inr rfl) ?_)|omega|exact decide_eq_true (by omega)|exact ap.refl _)
    ·rename_i hp;obtain⟨q1,q2⟩:=R8 hx.out hp;refine hC _ _ _ _ _ (by omega) ⟨j+1,by omega,by omega,rfl,rfl,rfl⟩ ?_;rw[q1,q2];exact dQ _ (by rw[gb];exact XC _) rfl ⟨rfl,rfl,rfl,rfl,rfl,trivial⟩ (by rw[gb];simp only[dY,aj,hlt,Ib,decide_true,Yn,Yz]) (by rw[gb];exact fF _ _ _ _ hbh (by simp only[aH,aq]) hlt)
    ·rename_i hp;obtain⟨q1,q2⟩:=R9 hx.out hp;refine hC _ _ _ _ _ (by omega) ⟨j+1,by omega,by omega,rfl,rfl,rfl⟩ ?_;rw[q1,q2];exact dQ _ (by rw[gb];exact XC _) rfl ⟨rfl,rfl,rfl,rfl,rfl,trivial⟩ (by rw[gb];simp only[dY,aj,hlt,Ib,decide_true,Yn,Yz]) (by rw[gb];exact fF _ _ _ _ hbh (by simp only[aH,aq]) hlt)
   ·obtain rfl:j=l.length:=by omega
    have hm0:gn p l l.length≠[]:=fun e=>by rw[e]at lz;simp at lz;omega
    have hn1:¬ab ((gn p l l.length).map am)=[]:=by simpa[ab]using hm0
    have H5:∀z:List PV,(av (ab ((gn p l l.length).map am)) (cp p l l.length).length (XR (l.length - (cp p l l.length).length) z)).length=l.length:=fun z=>by
     rw[aR (by simp[aC,lz];omega)];simp[aC,lz]
    have H4:∀z:List PV,¬av (ab ((gn p l l.length).map am)) (cp p l l.length).length (XR (l.length - (cp p l l.length).length) z)=[]:=fun z e=>by
     have:=H5 z;rw[e]at this;simp at this;omega
    repeat' (first|(with_reducible refine And.intro ?_ ?_)|(with_reducible refine dO (fun _=>?_) (fun _=>?_))|(with_reducible refine aN (fun _=>?_) (fun _=>?_))|(with_reducible refine cg (by kernel_rfl))|simp -dsimp only[go_sem,seval, *,am,YZ,lz,gb]|((with_reducible refine ci ?_);simp -dsimp only[go_sem,seval,am,YZ,lz,gb];first|refine aP (by first|assumption|fail) (by first|exact .inl rfl|exact .inr rfl) ?_|refine aO (by assumption) (by repeat(first|exact ap.refl _|exact ap.nil _|(refine ap.tup ?_)|(refine ap.agg ?_ rfl)|exact trivial|(refine And.intro ?_ ?_))) (by first|exact .inl rfl|exact .inr rfl) ?_)|omega|exact decide_eq_true (by omega)|exact ap.refl _)
    have bZ:=zL p l;rw[←bZ,Zz];exact zM hlt (by simp[lz];omega) (by simpa using hm0) (by simp[lz])
def cv (b:Bok)(id:Int):Option Pol:=b.pools.find? fun p=>p.id==id
def tJ (l:List Pol):Prop:=l.Pairwise fun a b=>a.id < b.id
theorem Jy {α:Type}{key:α→Int}{t:Int}{l:List α}(hs:l.Pairwise fun a b=>key a < key b):(rS key t l=true∧∃p,l[m4 key t l]? =some p∧l.find? (fun p=>key p==t)=some p∧key p=t)∨(rS key t l=false∧l.find? (fun p=>key p==t)=none):=by
 have y8:∀q (hq:q < l.length),q < m4 key t l→key l[q] < t:=by
  intro q hq hlt;have:=List.not_of_lt_findIdx hlt;simp at this;omega
 cases hx:l[m4 key t l]? with
 |none=>
  right;have hb:rS key t l=false:=by unfold rS;rw[hx]
  refine⟨hb,?_⟩;rw[YF];intro y hy;obtain⟨q,hq,rfl⟩:=Yf.1 hy;have aT:l.length≤m4 key t l:=by
   rcases XO (m4 key t l) l.length with h|h
   ·rw[Xj h]at hx;cases hx
   ·exact h
  have:=y8 q hq (by omega);simp;omega
 |some p=>
  obtain⟨hlt,hp⟩:=Xo.1 hx;have hge:t≤key p:=by
   have:=List.findIdx_getElem (xs:=l) (p:=fun x=>decide (t≤key x)) (w:=hlt);rw[show l[List.findIdx (fun x=>decide (t≤key x)) l]'hlt=p from hp]at this;simpa using this
  by_cases he:key p=t
  ·left;have hb:rS key t l=true:=by unfold rS;rw[hx];simpa using he
   refine⟨hb,p,rfl,?_,he⟩;have oa:p∈l:=Xl hx;cases hf:l.find? (fun p=>key p==t)with
   |none=>exact absurd he (by simpa using YF.1 hf p oa)
   |some q=>
    have hq1:key q=t:=by simpa using Zv hf
    have EO:=YO hf;obtain⟨i,hi,rfl⟩:=Yf.1 EO;rcases Y4 i (m4 key t l)with h|h|h
    ·have:=y8 i hi h;omega
    ·subst h;rw[Xj hlt]at hx;rw[XX.inj hx]
    ·have:=XM.1 hs _ i hlt hi h;rw[hp]at this;omega
  ·right;have hb:rS key t l=false:=by unfold rS;rw[hx];simpa using he
   refine⟨hb,?_⟩;rw[YF];intro y hy;obtain⟨i,hi,rfl⟩:=Yf.1 hy;rcases Y4 i (m4 key t l)with h|h|h
   ·have:=y8 i hi h;simp;omega
   ·subst h;rw[hp];simpa using he
   ·have:=XM.1 hs _ i hlt hi h;rw[hp]at this;simp;omega
theorem F5 (p:Pol)(t:Int):ae prog 234 [.agg (am p),.v (.int .i64 t)] (.v (.int .i64 (d7 p.id t))):=by
 refine pj func234 ntmps234 results234 ?_;have z1z:=mC p.id t;exact bo;all_goals exact ap.refl _
def o6 (b:Bok)(id:Int):D:=match cv b id with|some p=> .tup [.ept (am p),.v (.bool true)]|none=> .tup [.v (.pointer none),.v (.bool false)]
theorem ny (b:Bok)(id:Int)(hb:b.pools.length≤1000000000)(hs:tJ b.pools):ae prog 156 [.ept (bN b),.v (.int .i64 id)] (o6 b id):=by
 have RT:=tH kX (fun p=>p.id) b.pools id 234 [] hb hs (fun p _=>F5 p id);unfold o6 cv;rcases Jy (t:=id) hs with⟨h1,p,h2,h3,-⟩|⟨h1,h2⟩
 ·rw[h1]at RT;rw[h3];refine pj func156 ntmps156 results156 ?_;exact bo;all_goals exact ap.refl _
 ·rw[h1]at RT;rw[h2];refine pj func156 ntmps156 results156 ?_;exact bo;all_goals exact ap.refl _
theorem pI (p q:Pfx):([p.at_,p.len]==[q.at_,q.len])=decide (p=q):=by
 rw[Yl];cases p;cases q;simp
def ez (b:Bok)(p:Pol)(l:Lse):Bool:=
 if l.kind==1 then fL l.owner&&(l.till==0)
 else if l.kind==2 then (match cv b l.owner with|some q=>(q.up==p.id)&&(decide (q.root=l.at_)&&(l.till==0))|none=>false)
 else if l.kind==3 then (l.owner==0)&&(decide (l.till>b.tick)&&decide (l.till≤b.tick+1024))else false
theorem Qn (b:Bok)(p:Pol)(l:Lse)(hb:b.pools.length≤1000000000)(hs:tJ b.pools)(ht:0≤b.tick∧b.tick≤1073741824):ae prog 121 [.ept (bN b),.ept (am p),.agg (aQ l)] (.v (.bool (ez b p l))):=by
 unfold ez;cases h1:l.kind==1 with
 |true=>
  rw[if_pos rfl];cases h2:fL l.owner with
  |true=>
   have hi:=Ab l.owner;rw[h2]at hi;refine pj func121 ntmps121 results121 ?_;exact bo;all_goals exact ap.refl _
  |false=>
   have hi:=Ab l.owner;rw[h2]at hi;refine pj func121 ntmps121 results121 ?_;exact bo;all_goals exact ap.refl _
 |false=>
  rw[if_neg (by simp)];cases h2:l.kind==2 with
  |true=>
   rw[if_pos rfl];have hf:=ny b l.owner hb hs;unfold o6 at hf;cases hq:cv b l.owner with
   |none=>
    rw[hq]at hf;refine pj func121 ntmps121 results121 ?_;exact bo;all_goals exact ap.refl _
   |some q=>
    rw[hq]at hf;have he:=pI q.root l.at_;cases h3:q.up==p.id<;>cases h4:decide (q.root=l.at_)<;>rw[h4]at he;all_goals
     refine pj func121 ntmps121 results121 ?_;exact bo;all_goals simp only[h3,h4,YC,Bool.false_and,Bool.and_false]
     all_goals exact ap.refl _
  |false=>
   rw[if_neg (by simp)];have hw:IntKind.i64.wrap (b.tick+1024)=b.tick+1024:=by rw[IntKind.wrap_i64];omega
   cases h3:l.kind==3 with
   |false=>
    rw[if_neg (by simp)];refine pj func121 ntmps121 results121 ?_;exact bo;all_goals exact ap.refl _
   |true=>
    rw[if_pos rfl];cases h4:l.owner==0<;>cases h5:decide (l.till>b.tick);all_goals
     refine pj func121 ntmps121 results121 ?_;exact bo;all_goals exact ap.refl _
def mL (id:Int)(l:Lse):Bool:=(l.kind==2)&&(l.owner==id)
theorem MS (l:Lse)(p:Pol):ae prog 205 [.agg (aQ l),.ept [.ept (am p)]] (.v (.bool (mL p.id l))):=by
 unfold mL;cases h1:l.kind==2;all_goals
  refine pj func205 ntmps205 results205 ?_;exact bo;all_goals exact ap.refl _
def iX (b:Bok):Nat→Pol→Bool
 |0,p=>p.up==0
 |n+1,p=>(p.up==0)||(match cv b p.up with|some q=>q.leases.any (mL p.id)&&iX b n q|none=>false)
theorem Jz {b:Bok}{p:Pol}(n:Nat)(h:(p.up==0)=true):iX b n p=true:=by cases n<;>simp[iX,h]
theorem Qo (b:Bok)(p:Pol)(hb:b.pools.length≤8)(hs:tJ b.pools)(hl:∀q∈b.pools,q.leases.length≤1000000000):ae prog 118 [.ept (bN b),.ept (am p)] (.v (.bool (iX b b.pools.length p))):=by
 refine pj func118 ntmps118 results118 ?_;refine ay ?_<;>intros;refine cf af al (fun m e h=>∃(k:Nat) (q:Pol),k≤b.pools.length∧iX b b.pools.length p=iX b (b.pools.length - k) q∧m=b.pools.length - k∧e=[(12,.d (.v (.int .i64 k))),(11,.d (.v (.int .i64 b.pools.length))),(4,.d (.v (.bool false))),(3,.ptr 0 0),(0,.d (.ept (bN b)))]∧
  h=[.box 194 [.d (.ept (am q))]]) _ _ _ ⟨0,p,XL _,rfl,rfl,rfl,rfl⟩ (wf) ?_
 rintro m e h ⟨k,q,hk,hZ,hm,rfl,rfl⟩ CL m5;by_cases hlt:k < b.pools.length
 ·have ec:(k:Int) < (b.pools.length:Int):=by omega
  have dW:=wi k (by omega);obtain⟨j,hj⟩:∃j,b.pools.length - k=j+1:=⟨b.pools.length - k - 1,by omega⟩;rw[hj]at hZ;replace hZ:=Xk hZ;replace hj:=Xk hj;replace hm:=Xk hm;cases h0:q.up==0 with
  |true=>
   refine ay ?_<;>intros;rw[hZ.out,Jz _ h0];exact ap.refl _
  |false=>
   have hf:=ny b q.up (by omega) hs;unfold o6 at hf;cases hq:cv b q.up with
   |none=>
    rw[hq]at hf;refine ay ?_<;>intros;rw[hZ.out];simp only[iX,h0,hq,Z0];exact ap.refl _
   |some r=>
    rw[hq]at hf;have hr:r∈b.pools:=YO hq;have om:=qO kW (mL q.id) r.leases 205 [.ept [.ept (am q)]] (hl r hr) (fun x _=>MS x q);cases ha:r.leases.any (mL q.id)with
    |false=>
     rw[ha]at om;refine ay ?_<;>intros;rw[hZ.out];simp only[iX,h0,hq,ha,Z0,Bool.false_and];exact ap.refl _
    |true=>
     rw[ha]at om;refine ay ?_<;>intros;refine m5 _ _ _ _ _ ?_ ⟨k+1,r,hlt,?_,rfl,rfl,rfl⟩ (wf)
     ·have:=hm.out;omega
     ·rw[hZ.out];simp only[iX,h0,hq,ha,Z0,YC];congr 1;have:=hj.out;omega
 ·obtain rfl:k=b.pools.length:=by omega
  rw[Y8]at hZ;replace hZ:=Xk hZ;refine ay ?_<;>intros;rw[hZ.out];exact ap.refl _
theorem MT (b:Bok)(p:Pol)(l:Lse)(hb:b.pools.length≤1000000000)(hs:tJ b.pools)(ht:0≤b.tick∧b.tick≤1073741824):ae prog 120 [.agg (aQ l),.ept (bN b),.ept [.ept (am p)]] (.v (.bool (!ez b p l))):=by
 have hl:=Qn b p l hb hs ht;refine pj func120 ntmps120 results120 ?_;exact bo
theorem MU (p:Pol)(q:Pfx):ae prog 123 [.agg (aK q),.ept [.ept (am p)]] (.v (.bool (p.root.meets q))):=by
 have hm:=pD p.root q;refine pj func123 ntmps123 results123 ?_;exact bo
def dP:Int→List Pol→Bool
 |_,[]=>true
 |last,p::l=>(fL p.id&&(decide (last < p.id)&&((iK p.root (eE p)==0)&&iy p.rule p.root.len)))&&dP p.id l
def dk (b:Bok):List Pol→List Pfx→Bool
 |[],_=>true
 |p::l,roots=>(iX b b.pools.length p&&p.leases.all (ez b p))&&(if p.up==0 then !(roots.any p.root.meets)&&dk b l (roots++[p.root])else dk b l roots)
def bx (b:Bok):Int:=if b.pools.length>8 then 2 else if b.tick < 0∨b.tick>1073741824 then 1 else if dP 0 b.pools&&dk b b.pools []then 0 else 1
theorem j7:∀(l:List Pol) (last:Int),dP last l=true→tJ l∧∀p∈l,last < p.id
 |[],_,_=>⟨List.Pairwise.nil,fun p h=>by simp at h⟩
 |p::l,last,h=>by
  simp only[dP,Xy,decide_eq_true_eq]at h;obtain⟨h1,h2⟩:=j7 l p.id h.2;refine⟨YM.2 ⟨fun q hq=>h2 q hq,h1⟩,fun q hq=>?_⟩;rcases XY.1 hq with rfl|hq
  ·exact h.1.2.1
  ·have:=h2 q hq;have:=h.1.2.1;omega
theorem lM:∀(l:List Pol) (last:Int),dP last l=true→∀p∈l,fL p.id=true∧iK p.root (eE p)=0∧iy p.rule p.root.len=true
 |p::l,last,h,q,hq=>by
  simp only[dP,Xy,decide_eq_true_eq,beq_iff_eq]at h;rcases XY.1 hq with rfl|hq
  ·exact⟨h.1.1,h.1.2.2.1,h.1.2.2.2⟩
  ·exact lM l p.id h.2 q hq
theorem pJ {α:Type}{l:List α}{k:Nat}{x:α}(h:l[k]? =some x):l.drop k=x::l.drop (k+1):=by
 obtain⟨hk,rfl⟩:=Xo.1 h;exact YV hk
theorem mM (b:Bok)(hz:∀p∈b.pools,p.leases.length≤3518437208882):ae prog 58 [.agg (bN b)] (.v (.int .i64 (bx b))):=by
 by_cases h8:b.pools.length>8
 ·have h8I:decide ((b.pools.length:Int)>8)=true:=by simp;omega
  have hr:bx b=2:=by simp[bx,h8]
  rw[hr];refine pj func58 ntmps58 results58 ?_;exact bo
 ·have h8I:decide ((b.pools.length:Int)>8)=false:=by simp;omega
  by_cases gx:b.tick < 0∨b.tick>1073741824
  ·have hr:bx b=1:=by simp[bx,h8,gx]
   rw[hr];rcases gx with h|h
   ·have h1:decide (b.tick < 0)=true:=by simpa using h
    refine pj func58 ntmps58 results58 ?_;exact bo
   ·have h1:decide (b.tick < 0)=false:=by simp;omega
    have h2:decide (b.tick>1073741824)=true:=by simpa using h
    refine pj func58 ntmps58 results58 ?_;exact bo
  ·have h1:decide (b.tick < 0)=false:=by simp;omega
   have h2:decide (b.tick>1073741824)=false:=by simp;omega
   have ht:0≤b.tick∧b.tick≤1073741824:=by omega
   have hr:bx b=if dP 0 b.pools&&dk b b.pools []then 0 else 1:=by simp only[bx,h8,gx,if_false]
   rw[hr];replace hr:=Xk hr;replace ht:=Xk ht;refine pj func58 ntmps58 results58 ?_;refine ay ?_<;>intros;refine cf af al (fun m e h=>∃(k:Nat) (last:Int),k≤b.pools.length∧dP 0 b.pools=dP last (b.pools.drop k)∧m=b.pools.length - k∧e=[(24,.d (.v (.int .i64 k))),(23,.d (.v (.int .i64 b.pools.length))),(3,.d (.v (.int .i64 last))),(2,.d (.v (.int .i64 0))),(1,.ptr 0 0)]∧
    h=[.box 30 ((bN b).map .d)]) _ _ _ ⟨0,0,XL _,rfl,rfl,rfl,rfl⟩ (wf) ?_
   rintro m e h ⟨k,last,hk,hZ,hm,rfl,rfl⟩ C hC;by_cases hlt:k < b.pools.length
   ·have ec:(k:Int) < (b.pools.length:Int):=by omega
    have dW:=wi k (by omega);obtain⟨p,hp⟩:∃p,b.pools[k]? =some p:=⟨_,Xj hlt⟩;have yn:p∈b.pools:=Xl hp;rw[pJ hp]at hZ;simp only[dP]at hZ;have hi:=Ab p.id;have gx:=HB p (hz p yn);have SC:=Jw p.root (eE p);have Kr:=F3 p.rule p.root;replace hZ:=Xk hZ;replace hm:=Xk hm;repeat' (first|(with_reducible refine And.intro ?_ ?_)|(with_reducible refine dO (fun _=>?_) (fun _=>?_))|(with_reducible refine aN (fun _=>?_) (fun _=>?_))|(with_reducible refine cg (by kernel_rfl))|simp -dsimp only[go_sem,seval, *,bN,am,ec,dW,hp]|((with_reducible refine ci ?_);simp -dsimp only[go_sem,seval,bN,am,ec,dW,hp];first|refine aP (by first|assumption|exact hi|exact gx|exact SC|exact Kr) (by first|exact .inl rfl|exact .inr rfl) ?_|(refine aO (by assumption) ?_ ?_ ?_;(solve|(repeat(first|exact ap.refl _|exact ap.nil _|(refine ap.tup ?_)|(refine ap.agg ?_ rfl)|exact trivial|(refine And.intro ?_ ?_))));(solve|exact .inl rfl|exact .inr rfl)))|fail|omega|exact decide_eq_true (by omega)|exact ap.refl _)
    case' pos.refine_1.refine_2.refine_2.refine_2.refine_1=>
     rename_i q1 q2 q3 q4;refine hC _ _ _ _ _ ?_ ⟨k+1,p.id,hlt,?_,rfl,rfl,rfl⟩ (wf)
     ·have:=hm.out;omega
     ·rw[hZ.out];have e1:decide (last < p.id)=true:=by simpa using q2
      have e2:(iK p.root (eE p)==0)=true:=by simpa using q3
      rw[q1,e1,e2,q4];rfl
    all_goals
     have hf:dP 0 b.pools=false:=by
      rw[hZ.out];clear hC hi gx SC Kr hz hZ hm hr ht;grind
     rw[hf];exact ap.refl _
   ·obtain rfl:k=b.pools.length:=by omega
    rw[Zf]at hZ;have hf:dP 0 b.pools=true:=by rw[hZ];rfl
    obtain⟨OP,-⟩:=j7 _ _ hf;have ma:=lM _ _ hf;have p4:∀p∈b.pools,p.leases.length≤32:=fun p hp=>by
     have:=(ma p hp).2.1;unfold iK at this;split at this
     ·cases this
     ·rename_i h;simpa[eE]using h
    rw[hf];replace hf:=Xk hf;replace hZ:=Xk hZ;replace hm:=Xk hm;replace ma:=Xk ma;refine ay ?_<;>intros;refine cf af al (fun m e h=>∃(k g:Nat) (roots:List Pfx),k≤b.pools.length∧dk b b.pools []=dk b (b.pools.drop k) roots∧roots.length≤k∧m=b.pools.length - k∧e=[(71,.d (.v (.int .i64 k))),(70,.d (.v (.int .i64 b.pools.length))),(6,.own 1 g),(2,.d (.v (.int .i64 0))),(1,.ptr 0 0)]∧
     h=[.box 30 ((bN b).map .d),.row 23 2 g (ab (roots.map aK))]) _ _ _ ⟨0,0,[],XL _,rfl,XL _,rfl,rfl,rfl⟩ ((dZ (XL _) 6 23 2 rfl).trans (wf)) ?_
    rintro m e h ⟨k,g,roots,hk,vg,Aw,hm,rfl,rfl⟩ C hC;by_cases hlt:k < b.pools.length
    ·have ec:(k:Int) < (b.pools.length:Int):=by omega
     have dW:=wi k (by omega);obtain⟨p,hp⟩:∃p,b.pools[k]? =some p:=⟨_,Xj hlt⟩;have yn:p∈b.pools:=Xl hp;rw[pJ hp]at vg;simp only[dk]at vg;have kh:=Qo b p (by omega) OP (fun q hq=>by have:=p4 q hq;omega);have gA:=qO kW (fun l=>!ez b p l) p.leases 120 [.ept (bN b),.ept [.ept (am p)]] (by have:=p4 p yn;omega) (fun l _=>MT b p l (by omega) OP ht.out);have hcp:=un C8 p.root.meets roots 123 [.ept [.ept (am p)]] (by omega) (fun q _=>MU p q);have sF:(roots.length+1)*16≤140737488355328:=by omega
     replace vg:=Xk vg;replace hm:=Xk hm;have bK:p.leases.all (ez b p)=!(p.leases.any fun l=>!ez b p l):=by simp[List.all_eq_not_any_not]
     replace bK:=Xk bK;repeat' (first|(with_reducible refine And.intro ?_ ?_)|(with_reducible refine dO (fun _=>?_) (fun _=>?_))|(with_reducible refine aN (fun _=>?_) (fun _=>?_))|(with_reducible refine cg (by kernel_rfl))|simp -dsimp only[go_sem,seval, *,bN,am,ec,dW,hp]|((with_reducible refine ci ?_);simp -dsimp only[go_sem,seval,bN,am,ec,dW,hp];first|refine aP (by first|assumption|exact kh|exact gA|exact hcp) (by first|exact .inl rfl|exact .inr rfl) ?_|(refine aO (by assumption) ?_ ?_ ?_;(solve|(repeat(first|exact ap.refl _|exact ap.nil _|(refine ap.tup ?_)|(refine ap.agg ?_ rfl)|exact trivial|(refine And.intro ?_ ?_))));(solve|exact .inl rfl|exact .inr rfl)))|fail|omega|exact decide_eq_true (by omega)|exact ap.refl _)
     case' pos.refine_1.refine_2.refine_1.refine_2=>
      rename_i q1 q2 q3 q4;refine hC _ _ _ _ _ ?_ ⟨k+1,g+1,roots++[p.root],hlt,?_,by simp;omega,rfl,rfl,rfl⟩ (wf (hh:=(by simp only[bN,Xz,Xm,Xx,aK];rfl)))
      ·have:=hm.out;omega
      ·rw[vg.out,q1,bK.out,q2,if_pos q3,q4];rfl
     case' pos.refine_1.refine_2.refine_2=>
      rename_i q1 q2 q3;refine hC _ _ _ _ _ ?_ ⟨k+1,g,roots,hlt,?_,by omega,rfl,rfl,rfl⟩ (wf)
      ·have:=hm.out;omega
      ·rw[vg.out,q1,bK.out,q2,if_neg (by rw[q3];simp)];rfl
     all_goals
      have E3:dk b b.pools []=false:=by
       rw[vg.out,bK.out];clear hC kh gA hcp hz vg hm hr ht bK;grind
      rw[E3];exact ap.refl _
    ·obtain rfl:k=b.pools.length:=by omega
     rw[Zf]at vg;replace vg:=Xk vg;refine ay ?_<;>intros;rw[vg.out];exact ap.refl _
end Go.Proofs.YtojojebildofnaaGreatDoor
