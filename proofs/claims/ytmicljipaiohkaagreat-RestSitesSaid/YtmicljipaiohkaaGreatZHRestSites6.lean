/- RestSites: its statement, for every input, out of its walk. (texts of this work, joined) -/
import Derived.Test.YtmicljipaiohkaaGreatZHRestSites5
import Derived.Test.YtmicljipaiohkaaGreatRows
import Derived.WalkKit
import Derived.ProofKit
import Derived.OpenShut
import Derived.ShutString
import Derived.ChangeOld
import Derived.Below
set_option linter.unusedSimpArgs false
set_option linter.unusedVariables false
set_option maxRecDepth 100000
set_option maxHeartbeats 16000000
namespace Go.Proofs.YtmicljipaiohkaaGreat
open Go Go.RowKit Go.Proofs.Tryz
open Go.Lib renaming hid → Xi
open _root_.List renaming getElem?_eq_getElem → Xj, mem_of_getElem? → Xk, map_cons → Xl, getElem?_eq_some_iff → Xm, map_append → Xn, length_take → Xo, map_nil → Xp, take_length → Xq, getElem?_map → Xr, length_map → Xs, length_cons → XC, all_eq_true → XD, mem_map → XF, pairwise_iff_getElem → XH, getElem?_append_right → XI, take_of_length_le → XM, getElem?_eq_none → XN, length_drop → XO, getElem?_take_of_lt → XP, setIfInBounds_toArray → XQ, any_eq_true → XR, replicate → XS, set_cons_zero → XT, length_append → XV, getElem?_append_left → XW, length_nil → XX, mem_cons → XY, mem_iff_getElem → XZ, mem_append → X0, set_cons_succ → X2, append_assoc → X3, range → X4, cons_append → X5, getElem_of_mem → X7, nil_append → X8, eq_nil_of_length_eq_zero → X9, mem_singleton → Yc, mem_of_mem_drop → Yd, take → Ye, mem_of_mem_take → Yf, ext_getElem? → Yg, any_eq_false → Yh, getElem?_drop → Yk, getElem_mem → Yl, take_append_of_le_length → Ym, find?_eq_none → Yr, set_append_right → Yu, append_nil → Yv, getElem?_cons_succ → Yw, mem_of_find?_eq_some → YC, size_toArray → YF, drop_eq_getElem_cons → YN, mem_range → YO, length_set → YS, take_append_drop → YV, toList_toArray → YZ, map_congr_left → Y0, all_eq_false → Y2, mem_or_eq_of_mem_set → Y4, drop_length → Y6, mem_map_of_mem → Y7, length_filter_le → Y8, mem_iff_getElem? → Zd, find?_some → Zg, filter_filter → Zh, getElem?_take → Zi, length → Zm, mem_filter → Zv, getElem_take → ZD, take_succ_cons → ZF, all_append → ZR, map_set → ZU, map_flatten → Z1, map_map → Z4, not_of_lt_findIdx → Z5, filter_congr → Z9, take_zero → p', findIdx_getElem → z', getElem?_set_ne → C', length_eraseIdx → D', nodup_append → Z', mem_toArray → _m, map_toArray → _p
open Go.World renaming size_alloc → Xt, heap_drewN → Xu, size_drew → Xy, cell? → YL, cell?_of_block → Zk, setRow → ZH
open _root_.Bool renaming and_eq_true → Xv, eq_iff_iff → Yi, true_and → Yp, and_self → Yq, and_true → Yx, false_eq_true → Yz, eq_false_iff → YB, not_eq_true' → Zq, and_eq_false_iff → ZN, and_assoc → _b
open _root_.Nat renaming zero_add → Xw, reduceEqDiff → Xx, reduceAdd → Xz, le_refl → XA, zero_le → XE, add_zero → XG, lt_or_ge → XL, lt_of_lt_of_le → Ya, le_trans → Yj, mul_le_mul_right → Yt, not_lt_zero → Yy, sub_self → YE, le_of_eq → YW, lt_trichotomy → Y9, sub_zero → Zs, eq_zero_or_pos → Zx, add_assoc → ZI, min → ZP, reduceLT → ZV, not_lt → ZX, min_def → B', le_of_lt → G', lt_or_gt_of_ne → V', one_le_two_pow → _i
open _root_.Option renaming map_eq_some_iff → XB, some → XU, map_some → Yb, isSome_some → YI, bind_some → Y5, isSome_none → Za, isSome_iff_exists → Ze
open _root_.Array renaming getElem?_toList → X6, getElem?_eq_none → YJ, replicate → Y1, mem_of_getElem? → Z8, toList_map → F', toArray_toList → _f, range → _k
open _root_.Int renaming dvd_of_emod_eq_zero → YH, lt_irrefl → Zz, emod_eq_zero_of_dvd → ZE, le_refl → ZJ, toNat_of_nonneg → Z0, fdiv_eq_ediv_of_nonneg → A', dvd_trans → N'
section
open Go.Proofs Go.ChangeShapes Go.WideShapes Go.ChangeAt
theorem zT:ownKnob prog.godebug=Option.none:=aK
theorem mO:laidOutB prog=true:=aK
theorem uH (os:Os)(started:os.Started)(H:Type)(enc:TypeId × Value->H):
 ReturnsInHanded {} Tryz.checked os 6 .any (Rows.restSitesSpec.pre6 enc prog Tryz.f6 Rows.restSitesRow.domain false) (Rows.restSitesSpec.post enc prog Tryz.f6 false true false false):=by
 refine returnsInHanded_of_change_sized (C:=Tryz.checked) zT started aK func6
  (ChangeSpec.witness6 (enc:=enc) (C:=Tryz.checked) false ⟨#[],#[.agg #[.int .i64 0,.slice none 0 0,.slice none 0 0,.slice none 0 0],.agg #[.int .i64 0,.int .i64 0,.int .i64 0,.int .i64 0,.int .i64 0,.int .i64 0,.int .i64 0,.int .i64 0,.int .i64 0,.int .i64 0]],[]⟩ 8 aK aK aK aK) ?_
 intro W base args ds gs before TJ hW hcnd cK _;have PS:∀(j:Nat) t v,Tryz.f6.params[j]? =some t->args[j]? =some v->Value.okWide prog W .any base t v:=TJ;have hW':=hW;obtain⟨p,q,L7,hV,rfl,hfz,ml⟩:=hW;have hA:DataW.TrodAll enc prog W 0 (fun _=>true) true Tryz.f6.params.toList args.toList ds p:=L7;rw[params6]at hA PS;obtain⟨v0,vs0,d0,ds0,p0,q0,vN,rfl,rfl,h0,r0⟩:=trodAll_cons hA;obtain⟨v1,vs1,d1,ds1,p1,q1,rfl,rfl,rfl,h1,r1⟩:=trodAll_cons r0;obtain⟨rfl,rfl,rfl⟩:=trodAll_nil r1;obtain rfl:args=#[v0,v1]:=by cases args;simp_all
 obtain⟨rfl,rfl⟩:=trodVars_none hV;letI:Flo:=⟨W.heap.size⟩
 haveI:FlW W:=⟨XA _⟩
 obtain⟨cs0,a0,rfl,w0,s0⟩:=WK underlying30 (PS 0 30 v0 rfl rfl) h0 Pb;replace s0:=s0 (fun n hn=>of_decide_eq_true (XD.1 cK _ (DataW.weights_mem_each (j:=0) (t:=30) rfl rfl n hn)));obtain⟨cs1,a1,rfl,w1,s1⟩:=WK underlying36 (PS 1 36 v1 rfl rfl) h1 Su;clear L7 TJ;refine(HG a0 a1 s0.1 s0.2 (vs:=[.agg cs0,.agg cs1]) (Jd (Je w0 rfl) (Jd (Je w1 rfl) So))).mono fun e W' ⟨he,bel⟩=>?_;subst he;exact⟨_,rfl,_,_,_,[],_,[],hW',trodAll_mk1 (shut_bool underlying4 _),(trodAll_cons_mk (Below.trod mO aK (of_decide_eq_true aK) h0 bel (EI h0)) (trodAll_cons_mk (Below.trod mO aK (of_decide_eq_true aK) h1 bel (EI h1)) trodAll_mk0)),rfl,bel.frame _,fun h=>by cases h⟩
set_option maxHeartbeats 0 in
theorem uI:joinedFacts prog 6 Tryz.f6 Rows.restSitesSpec Rows.restSitesRow=true:=by
 unfold joinedFacts;repeat' (with_reducible refine Bool.and_eq_true_iff.2 ⟨?_,?_⟩)
 all_goals as_aux_lemma=>kernel_rfl
theorem wc:Tryz.pinned.checked.prog.funcNamed Rows.restSitesRow.func=some 6:=aK
theorem yT:Tryz.f6.isInstance Tryz.pinned.checked.prog Rows.restSitesRow.origin Rows.restSitesRow.targs:=of_decide_eq_true aK
theorem yU:Tryz.f6.isWrapper Tryz.pinned.checked.prog Rows.restSitesRow.wrapper Rows.restSitesRow.mainSum:=by unfold Func.isWrapper;first|(rw[ah (by decide+kernel)];kernel_rfl)|(rw[af (by decide+kernel)];exact⟨rfl,rfl⟩)
theorem yV:Rows.restSitesRow.holds Tryz.pinned (OpenSpec.ofChange Rows.restSitesSpec):=
 OpenClaim.holds_of_wide 6 Tryz.f6 rfl rfl rfl rfl rfl rfl rfl ⟨rfl,rfl,rfl,rfl,rfl⟩ rfl rfl rfl rfl rfl wc func6 uI yT yU
  (fun os started H enc _=>uH os started H enc)
theorem restSites_holds:Rows.RestSitesSaid:=yV
#print axioms restSites_holds
end
end Go.Proofs.YtmicljipaiohkaaGreat
