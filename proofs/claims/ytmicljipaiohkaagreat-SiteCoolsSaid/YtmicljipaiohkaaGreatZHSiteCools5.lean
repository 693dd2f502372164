/- SiteCools: its statement, for every input, out of its walk. (texts of this work, joined) -/
import Derived.Test.YtmicljipaiohkaaGreatZHSiteCools4
import Derived.SizedLaws
import Derived.Test.YtmicljipaiohkaaGreatRows
import Derived.WalkKit
import Derived.ProofKit
import Derived.OpenShut
import Derived.ShutString
import Derived.ChangeOld
import Derived.Below
set_option linter.unusedSimpArgs false
set_option linter.unusedVariables false
set_option maxRecDepth 100000
set_option maxHeartbeats 16000000
namespace Go.Proofs.YtmicljipaiohkaaGreat
open Go Go.RowKit
theorem beginF_m (v:Vpc)(pre post:List Sbn)(s0:Sbn)(hv:v.subs=pre++s0::post)(h:chkV v=0)(h4:v.ranges.length≤4)(h6:v.subs.length≤6)(h8:∀s∈v.subs,s.faces.length≤8∧∀f∈s.faces,f.addrs.length≤4):
 MSpec Tryz.prog 142 [.d (.agg (encV v))] [] (.tup [.ptr 2 0,.d (.v (.int .i64 0))]) [.gone,.row 58 3 1 (dRows (v.ranges.map encG)),.box 55 [.d (.v (.int .i64 v.id)),.own 1 1,.own 3 v.subs.length],.row 71 4 v.subs.length (zipG encN pre (subRow s0 (.own 6 s0.faces.length)) post),
  .gone,.gone,.row 74 2 s0.faces.length (dRows (s0.faces.map encF))]:=by
 have hc:=vcheck_p v
 rw[h]at hc
 replace h:=Lib.hid h
 replace h8:=Lib.hid h8
 have hlen:v.subs.length=pre.length+1+post.length:=by rw[hv];simp;omega
 have hL:=Lib.hid hv
 have hlen2:=Lib.hid hlen
 clear hv hlen
 have hcl:=clone_Range encG v.ranges (by omega)
 refine mj Tryz.func142 Tryz.ntmps142 Tryz.results142 ?_
 have z1z:=Ln.mk (ls:=[]) (hcl)
 refine wk1 ?_<;>intros
 refine loopG tab_ok mixed (fun m e h=>(∃k,k≤pre.length∧m=v.subs.length - k∧e=[(28,.d (.v (.int .i64 k))),(27,.d (.v (.int .i64 v.subs.length))),(26,.d (.sl 4 (v.subs.map encN))),(5,.ptr 2 0)]∧
  h=[.gone,.row 58 3 1 (dRows (v.ranges.map encG)),.box 55 [.d (.v (.int .i64 v.id)),.own 1 1,.own 3 k],.row 71 4 k (dRows ((pre.take k).map encN))])∨
  ∃k j,k=pre.length+1+j∧j≤post.length∧m=v.subs.length - k∧e=[(28,.d (.v (.int .i64 k))),(27,.d (.v (.int .i64 v.subs.length))),(26,.d (.sl 4 (v.subs.map encN))),(5,.ptr 2 0)]∧
   h=[.gone,.row 58 3 1 (dRows (v.ranges.map encG)),.box 55 [.d (.v (.int .i64 v.id)),.own 1 1,.own 3 k],.row 71 4 k (zipG encN pre (subRow s0 (.own 6 s0.faces.length)) (post.take j)),.gone,.gone,.row 74 2 s0.faces.length (dRows (s0.faces.map encF))]) _ _ _ (.inl ⟨0,Nat.zero_le _,rfl,rfl,rfl⟩) ?_ ?_
 ·refine(weak_gone 0 (by simp)).trans ((weak_adopt_box (by simp) 2 55 [.d (.v (.int .i64 v.id)),.own 1 1,.d (.v (.slice none 0 0))] 2 71 4 rfl rfl rfl).trans ?_)
  exact weak_forget _ (by simp) (by rfl) se bz2 bz2
 ·rintro m e h (⟨k,hk,hm,rfl,rfl⟩|⟨k,q,hkj,hj,hm,rfl,rfl⟩) CO hCO
  ·have hkI:(k:Int) < (v.subs.length:Int):=by have:=hlen2.out;omega
   have hwr:=wi k (by omega)
   have hb1:k+1≤100:=by have:=hlen2.out;omega
   have hlk:(List.take k pre).length=k:=by rw[List.length_take];omega
   have hm:=Lib.hid hm
   by_cases hkp:k < pre.length
   ·obtain⟨s,hq⟩:∃s,pre[k]? =some s:=⟨_,List.getElem?_eq_getElem hkp⟩
    have hs:v.subs[k]? =some s:=by rw[hL.out,List.getElem?_append_left hkp];exact hq
    have h8s:=h8.out s (List.mem_of_getElem? hs)
    replace hs:=Lib.hid hs
    replace hq:=Lib.hid hq
    have hs1:=hs.out
    refine wk1 ?_<;>intros
    refine loopL tab_ok mixed s.faces (fun _=>True) (fun j=>[(40,.d (.v (.int .i64 j))),(39,.d (.v (.int .i64 s.faces.length))),(38,.d (.sl 2 (s.faces.map encF))),(28,.d (.v (.int .i64 k))),(27,.d (.v (.int .i64 v.subs.length))),(26,.d (.sl 4 (v.subs.map encN))),(8,.ptr 5 0),(5,.ptr 2 0)])
     (fun j=>[.gone,.row 58 3 1 (dRows (v.ranges.map encG)),.box 55 [.d (.v (.int .i64 v.id)),.own 1 1,.own 3 k],.row 71 4 k (dRows ((pre.take k).map encN)),.gone,.box 71 [.d (.v (.int .i64 s.id)),.d (.v (.int .i64 s.at_.at_)),.d (.v (.int .i64 s.at_.len)),.own 6 j],.row 74 2 j (dRows ((s.faces.take j).map encF))]) trivial ?_ ?_ ?_
    ·refine(weak_gone 4 (by simp)).trans ((weak_adopt_box (by simp) 5 71 [.d (.v (.int .i64 s.id)),.d (.v (.int .i64 s.at_.at_)),.d (.v (.int .i64 s.at_.len)),.d (.v (.slice none 0 0))] 3 74 2 rfl rfl rfl).trans ?_)
     exact weak_forget _ (by simp) (by rfl) se bz2 bz2
    ·intro j f hf hj _ C hC
     have hjI:(j:Int) < (s.faces.length:Int):=by omega
     have hwj:=wi j (by omega)
     have hfl:=h8s.2 f (List.mem_of_getElem? hf)
     have hb2:j+1≤100:=by omega
     have hlj:(List.take j s.faces).length=j:=by rw[List.length_take];omega
     replace hf:=Lib.hid hf
     have hf1:=hf.out
     have z1z:=Ln.mk (ls:=[]) (clone_int f.addrs (by omega))
     refine wk1 ?_<;>intros
     refine hC _ _ trivial ((weak_freeze 8 1 3 1 (f.addrs.map encA) rfl).trans ?_)
     simp only[fzE,fz,fzL,fzH,fzC,fzR,fzR_app,fzR_d,fzL_d,List.map_cons,List.map_nil,Nat.reduceAdd,Nat.reduceEqDiff,reduceIte,and_true,true_and,and_self,and_false,false_and,Nat.zero_add,Nat.add_zero,reduceCtorEq,fzR_zipG]
     exact weak_forget _ (by simp) (by rw[take_snoc hf.out,List.map_append,List.map_cons,List.map_nil,←dRows_app];rfl) se bz2 bz2
    ·intro _ C
     refine wk1 ?_<;>intros
     refine hCO _ _ _ _ _ ?_ (.inl ⟨k+1,hkp,rfl,rfl,rfl⟩) ((weak_freeze 6 s.faces.length 74 2 (s.faces.map encF) rfl).trans ?_)
     ·have:=hm.out;have:=hlen2.out;omega
     simp only[fzE,fz,fzL,fzH,fzC,fzR,fzR_app,fzR_d,fzL_d,List.map_cons,List.map_nil,Nat.reduceAdd,Nat.reduceEqDiff,reduceIte,and_true,true_and,and_self,and_false,false_and,Nat.zero_add,Nat.add_zero,reduceCtorEq]
     exact weak_forget _ (by simp) (by rw[take_snoc hq.out,List.map_append,List.map_cons,List.map_nil,←dRows_app];rfl) se bz2 bz2
   ·obtain rfl:k=pre.length:=by omega
    have hs:v.subs[pre.length]? =some s0:=by rw[hL.out,List.getElem?_append_right (Nat.le_refl _),Nat.sub_self];rfl
    have h8s:=h8.out s0 (List.mem_of_getElem? hs)
    replace hs:=Lib.hid hs
    have hs1:=hs.out
    obtain⟨k,hk2⟩:∃k,k=pre.length:=⟨_,rfl⟩
    obtain⟨s,hs2⟩:∃s,s=s0:=⟨_,rfl⟩
    rw[←hs2]at h8s hs1 hCO ⊢
    rw[←hk2]at hs1 hkI hwr hb1 hlk hCO ⊢
    rw[hk2,List.take_length]at hlk
    replace hs2:=Lib.hid hs2
    replace hk2:=Lib.hid hk2
    refine wk1 ?_<;>intros
    refine loopL tab_ok mixed s.faces (fun _=>True) (fun j=>[(40,.d (.v (.int .i64 j))),(39,.d (.v (.int .i64 s.faces.length))),(38,.d (.sl 2 (s.faces.map encF))),(28,.d (.v (.int .i64 k))),(27,.d (.v (.int .i64 v.subs.length))),(26,.d (.sl 4 (v.subs.map encN))),(8,.ptr 5 0),(5,.ptr 2 0)])
     (fun j=>[.gone,.row 58 3 1 (dRows (v.ranges.map encG)),.box 55 [.d (.v (.int .i64 v.id)),.own 1 1,.own 3 k],.row 71 4 k (dRows ((pre.take k).map encN)),.gone,.box 71 [.d (.v (.int .i64 s.id)),.d (.v (.int .i64 s.at_.at_)),.d (.v (.int .i64 s.at_.len)),.own 6 j],.row 74 2 j (dRows ((s.faces.take j).map encF))]) trivial ?_ ?_ ?_
    ·refine(weak_gone 4 (by simp)).trans ((weak_adopt_box (by simp) 5 71 [.d (.v (.int .i64 s.id)),.d (.v (.int .i64 s.at_.at_)),.d (.v (.int .i64 s.at_.len)),.d (.v (.slice none 0 0))] 3 74 2 rfl rfl rfl).trans ?_)
     exact weak_forget _ (by simp) (by rfl) se bz2 bz2
    ·intro j f hf hj _ C hC
     have hjI:(j:Int) < (s.faces.length:Int):=by omega
     have hwj:=wi j (by omega)
     have hfl:=h8s.2 f (List.mem_of_getElem? hf)
     have hb2:j+1≤100:=by omega
     have hlj:(List.take j s.faces).length=j:=by rw[List.length_take];omega
     replace hf:=Lib.hid hf
     have hf1:=hf.out
     have z1z:=Ln.mk (ls:=[]) (clone_int f.addrs (by omega))
     refine wk1 ?_<;>intros
     refine hC _ _ trivial ((weak_freeze 8 1 3 1 (f.addrs.map encA) rfl).trans ?_)
     simp only[fzE,fz,fzL,fzH,fzC,fzR,fzR_app,fzR_d,fzL_d,List.map_cons,List.map_nil,Nat.reduceAdd,Nat.reduceEqDiff,reduceIte,and_true,true_and,and_self,and_false,false_and,Nat.zero_add,Nat.add_zero,reduceCtorEq,fzR_zipG]
     exact weak_forget _ (by simp) (by rw[take_snoc hf.out,List.map_append,List.map_cons,List.map_nil,←dRows_app];rfl) se bz2 bz2
    ·intro _ C
     have hlk2:(List.take k pre).length=k:=by rw[hk2.out,List.take_length]
     refine wk1 ?_<;>intros
     refine hCO _ _ _ _ _ ?_ (.inr ⟨k+1,0,by rw[hk2.out],Nat.zero_le _,rfl,rfl,rfl⟩) ((weak_gone 5 (by simp)).trans ?_)
     ·have:=hm.out;have:=hlen2.out;have:=hk2.out;omega
     exact weak_forget _ (by simp) (by rw[hk2.out,List.take_length];rfl) se bz2 bz2
  ·have hm:=Lib.hid hm
   have hkj2:=Lib.hid hkj
   have hb1:pre.length+1+q+1≤100:=by have:=hlen2.out;omega
   have hlk:(List.take q post).length=q:=by rw[List.length_take];omega
   have hkl:k≤v.subs.length:=by have:=hlen2.out;omega
   by_cases hjp:q < post.length
   ·obtain⟨s,hq⟩:∃s,post[q]? =some s:=⟨_,List.getElem?_eq_getElem hjp⟩
    have hs:v.subs[k]? =some s:=by
     rw[hL.out,List.getElem?_append_right (by omega),show k - pre.length=q+1 by omega,List.getElem?_cons_succ];exact hq
    have h8s:=h8.out s (List.mem_of_getElem? hs)
    have hkI:(k:Int) < (v.subs.length:Int):=by have:=hlen2.out;omega
    have hwr:=wi k (by omega)
    replace hq:=Lib.hid hq
    replace hs:=Lib.hid hs
    have hs1:=hs.out
    clear hkj
    refine wk1 ?_<;>intros
    refine loopL tab_ok mixed s.faces (fun _=>True) (fun j=>[(40,.d (.v (.int .i64 j))),(39,.d (.v (.int .i64 s.faces.length))),(38,.d (.sl 2 (s.faces.map encF))),(28,.d (.v (.int .i64 k))),(27,.d (.v (.int .i64 v.subs.length))),(26,.d (.sl 4 (v.subs.map encN))),(8,.ptr 8 0),(5,.ptr 2 0)])
     (fun j=>[.gone,.row 58 3 1 (dRows (v.ranges.map encG)),.box 55 [.d (.v (.int .i64 v.id)),.own 1 1,.own 3 k],.row 71 4 k (zipG encN pre (subRow s0 (.own 6 s0.faces.length)) (post.take q)),.gone,.gone,.row 74 2 s0.faces.length (dRows (s0.faces.map encF)),.gone,.box 71 [.d (.v (.int .i64 s.id)),.d (.v (.int .i64 s.at_.at_)),.d (.v (.int .i64 s.at_.len)),.own 9 j],.row 74 2 j (dRows ((s.faces.take j).map encF))]) trivial ?_ ?_ ?_
    ·refine(weak_gone 7 (by simp)).trans ((weak_adopt_box (by simp) 8 71 [.d (.v (.int .i64 s.id)),.d (.v (.int .i64 s.at_.at_)),.d (.v (.int .i64 s.at_.len)),.d (.v (.slice none 0 0))] 3 74 2 rfl rfl rfl).trans ?_)
     exact weak_forget _ (by simp) (by rfl) se bz2 bz2
    ·intro j f hf hj _ C hC
     have hjI:(j:Int) < (s.faces.length:Int):=by omega
     have hwj:=wi j (by omega)
     have hfl:=h8s.2 f (List.mem_of_getElem? hf)
     have hb2:j+1≤100:=by omega
     have hlj:(List.take j s.faces).length=j:=by rw[List.length_take];omega
     replace hf:=Lib.hid hf
     have hf1:=hf.out
     have z1z:=Ln.mk (ls:=[]) (clone_int f.addrs (by omega))
     refine wk1 ?_<;>intros
     refine hC _ _ trivial ((weak_freeze 11 1 3 1 (f.addrs.map encA) rfl).trans ?_)
     simp only[fzE,fz,fzL,fzH,fzC,fzR,fzR_app,fzR_d,fzL_d,List.map_cons,List.map_nil,Nat.reduceAdd,Nat.reduceEqDiff,reduceIte,and_true,true_and,and_self,and_false,false_and,Nat.zero_add,Nat.add_zero,reduceCtorEq,fzR_zipG]
     exact weak_forget _ (by simp) (by rw[take_snoc hf.out,List.map_append,List.map_cons,List.map_nil,←dRows_app];rfl) se bz2 bz2
    ·intro _ C
     refine wk1 ?_<;>intros
     refine hCO _ _ _ _ _ ?_ (.inr ⟨k+1,q+1,by have:=hkj2.out;omega,hjp,rfl,rfl,rfl⟩) ((weak_freeze 9 s.faces.length 74 2 (s.faces.map encF) rfl).trans ?_)
     ·have:=hm.out;have:=hlen2.out;have:=hkj2.out;omega
     simp only[fzE,fz,fzL,fzH,fzC,fzR,fzR_app,fzR_d,fzL_d,List.map_cons,List.map_nil,Nat.reduceAdd,Nat.reduceEqDiff,reduceIte,and_true,true_and,and_self,and_false,false_and,Nat.zero_add,Nat.add_zero,reduceCtorEq,fzR_zipG,subRow]
     exact weak_forget _ (by simp) (by rw[take_snoc hq.out,←zipG_snoc];rfl) se bz2 bz2
   ·obtain rfl:q=post.length:=by omega
    obtain rfl:k=v.subs.length:=by have:=hlen2.out;omega
    clear hkj
    refine wk1 ?_<;>intros
    (try rw[List.take_length])
    exact weak_eq rfl rfl
theorem beginA_m (v:Vpc)(pre post:List Sbn)(s0:Sbn)(preF postF:List Fce)(f0:Fce)(hv:v.subs=pre++s0::post)(hfv:s0.faces=preF++f0::postF)(h:chkV v=0)(h4:v.ranges.length≤4)(h6:v.subs.length≤6)(h8:∀s∈v.subs,s.faces.length≤8∧∀f∈s.faces,f.addrs.length≤4):
 MSpec Tryz.prog 142 [.d (.agg (encV v))] [] (.tup [.ptr 2 0,.d (.v (.int .i64 0))]) [.gone,.row 58 3 1 (dRows (v.ranges.map encG)),.box 55 [.d (.v (.int .i64 v.id)),.own 1 1,.own 3 v.subs.length],.row 71 4 v.subs.length (zipG encN pre (subRow s0 (.own 6 s0.faces.length)) post),
  .gone,.gone,.row 74 2 s0.faces.length (zipG encF preF (faceRow f0 (.own 8 1)) postF),.gone,.row 3 1 1 (dRows (f0.addrs.map encA))]:=by
 have hc:=vcheck_p v
 rw[h]at hc
 replace h:=Lib.hid h
 replace h8:=Lib.hid h8
 have hlen:v.subs.length=pre.length+1+post.length:=by rw[hv];simp;omega
 have hL:=Lib.hid hv
 have hlen2:=Lib.hid hlen
 clear hv hlen
 have hlenF:s0.faces.length=preF.length+1+postF.length:=by rw[hfv];simp;omega
 have hLF:=Lib.hid hfv
 have hlenF2:=Lib.hid hlenF
 clear hfv hlenF
 have hcl:=clone_Range encG v.ranges (by omega)
 refine mj Tryz.func142 Tryz.ntmps142 Tryz.results142 ?_
 have z1z:=Ln.mk (ls:=[]) (hcl)
 refine wk1 ?_<;>intros
 refine loopG tab_ok mixed (fun m e h=>(∃k,k≤pre.length∧m=v.subs.length - k∧e=[(28,.d (.v (.int .i64 k))),(27,.d (.v (.int .i64 v.subs.length))),(26,.d (.sl 4 (v.subs.map encN))),(5,.ptr 2 0)]∧
  h=[.gone,.row 58 3 1 (dRows (v.ranges.map encG)),.box 55 [.d (.v (.int .i64 v.id)),.own 1 1,.own 3 k],.row 71 4 k (dRows ((pre.take k).map encN))])∨
  ∃k j,k=pre.length+1+j∧j≤post.length∧m=v.subs.length - k∧e=[(28,.d (.v (.int .i64 k))),(27,.d (.v (.int .i64 v.subs.length))),(26,.d (.sl 4 (v.subs.map encN))),(5,.ptr 2 0)]∧
   h=[.gone,.row 58 3 1 (dRows (v.ranges.map encG)),.box 55 [.d (.v (.int .i64 v.id)),.own 1 1,.own 3 k],.row 71 4 k (zipG encN pre (subRow s0 (.own 6 s0.faces.length)) (post.take j)),.gone,.gone,.row 74 2 s0.faces.length (zipG encF preF (faceRow f0 (.own 8 1)) postF),.gone,.row 3 1 1 (dRows (f0.addrs.map encA))]) _ _ _ (.inl ⟨0,Nat.zero_le _,rfl,rfl,rfl⟩) ?_ ?_
 ·refine(weak_gone 0 (by simp)).trans ((weak_adopt_box (by simp) 2 55 [.d (.v (.int .i64 v.id)),.own 1 1,.d (.v (.slice none 0 0))] 2 71 4 rfl rfl rfl).trans ?_)
  exact weak_forget _ (by simp) (by rfl) se bz2 bz2
 ·rintro m e h (⟨k,hk,hm,rfl,rfl⟩|⟨k,q,hkj,hj,hm,rfl,rfl⟩) CO hCO
  ·have hkI:(k:Int) < (v.subs.length:Int):=by have:=hlen2.out;omega
   have hwr:=wi k (by omega)
   have hb1:k+1≤100:=by have:=hlen2.out;omega
   have hlk:(List.take k pre).length=k:=by rw[List.length_take];omega
   have hm:=Lib.hid hm
   by_cases hkp:k < pre.length
   ·obtain⟨s,hq⟩:∃s,pre[k]? =some s:=⟨_,List.getElem?_eq_getElem hkp⟩
    have hs:v.subs[k]? =some s:=by rw[hL.out,List.getElem?_append_left hkp];exact hq
    have h8s:=h8.out s (List.mem_of_getElem? hs)
    replace hs:=Lib.hid hs
    replace hq:=Lib.hid hq
    have hs1:=hs.out
    refine wk1 ?_<;>intros
    refine loopL tab_ok mixed s.faces (fun _=>True) (fun j=>[(40,.d (.v (.int .i64 j))),(39,.d (.v (.int .i64 s.faces.length))),(38,.d (.sl 2 (s.faces.map encF))),(28,.d (.v (.int .i64 k))),(27,.d (.v (.int .i64 v.subs.length))),(26,.d (.sl 4 (v.subs.map encN))),(8,.ptr 5 0),(5,.ptr 2 0)])
     (fun j=>[.gone,.row 58 3 1 (dRows (v.ranges.map encG)),.box 55 [.d (.v (.int .i64 v.id)),.own 1 1,.own 3 k],.row 71 4 k (dRows ((pre.take k).map encN)),.gone,.box 71 [.d (.v (.int .i64 s.id)),.d (.v (.int .i64 s.at_.at_)),.d (.v (.int .i64 s.at_.len)),.own 6 j],.row 74 2 j (dRows ((s.faces.take j).map encF))]) trivial ?_ ?_ ?_
    ·refine(weak_gone 4 (by simp)).trans ((weak_adopt_box (by simp) 5 71 [.d (.v (.int .i64 s.id)),.d (.v (.int .i64 s.at_.at_)),.d (.v (.int .i64 s.at_.len)),.d (.v (.slice none 0 0))] 3 74 2 rfl rfl rfl).trans ?_)
     exact weak_forget _ (by simp) (by rfl) se bz2 bz2
    ·intro j f hf hj _ C hC
     have hjI:(j:Int) < (s.faces.length:Int):=by omega
     have hwj:=wi j (by omega)
     have hfl:=h8s.2 f (List.mem_of_getElem? hf)
     have hb2:j+1≤100:=by omega
     have hlj:(List.take j s.faces).length=j:=by rw[List.length_take];omega
     replace hf:=Lib.hid hf
     have hf1:=hf.out
     have z1z:=Ln.mk (ls:=[]) (clone_int f.addrs (by omega))
     refine wk1 ?_<;>intros
     refine hC _ _ trivial ((weak_freeze 8 1 3 1 (f.addrs.map encA) rfl).trans ?_)
     simp only[fzE,fz,fzL,fzH,fzC,fzR,fzR_app,fzR_d,fzL_d,List.map_cons,List.map_nil,Nat.reduceAdd,Nat.reduceEqDiff,reduceIte,and_true,true_and,and_self,and_false,false_and,Nat.zero_add,Nat.add_zero,reduceCtorEq,fzR_zipG]
     exact weak_forget _ (by simp) (by rw[take_snoc hf.out,List.map_append,List.map_cons,List.map_nil,←dRows_app];rfl) se bz2 bz2
    ·intro _ C
     refine wk1 ?_<;>intros
     refine hCO _ _ _ _ _ ?_ (.inl ⟨k+1,hkp,rfl,rfl,rfl⟩) ((weak_freeze 6 s.faces.length 74 2 (s.faces.map encF) rfl).trans ?_)
     ·have:=hm.out;have:=hlen2.out;omega
     simp only[fzE,fz,fzL,fzH,fzC,fzR,fzR_app,fzR_d,fzL_d,List.map_cons,List.map_nil,Nat.reduceAdd,Nat.reduceEqDiff,reduceIte,and_true,true_and,and_self,and_false,false_and,Nat.zero_add,Nat.add_zero,reduceCtorEq]
     exact weak_forget _ (by simp) (by rw[take_snoc hq.out,List.map_append,List.map_cons,List.map_nil,←dRows_app];rfl) se bz2 bz2
   ·obtain rfl:k=pre.length:=by omega
    have hs:v.subs[pre.length]? =some s0:=by rw[hL.out,List.getElem?_append_right (Nat.le_refl _),Nat.sub_self];rfl
    have h8s:=h8.out s0 (List.mem_of_getElem? hs)
    replace hs:=Lib.hid hs
    have hs1:=hs.out
    obtain⟨k,hk2⟩:∃k,k=pre.length:=⟨_,rfl⟩
    rw[←hk2]at hs1 hkI hwr hb1 hlk hCO ⊢
    rw[hk2,List.take_length]at hlk
    replace hk2:=Lib.hid hk2
    refine wk1 ?_<;>intros
    refine loopG tab_ok mixed (fun m e h=>(∃j,j≤preF.length∧m=s0.faces.length - j∧e=[(40,.d (.v (.int .i64 j))),(39,.d (.v (.int .i64 s0.faces.length))),(38,.d (.sl 2 (s0.faces.map encF))),(28,.d (.v (.int .i64 k))),(27,.d (.v (.int .i64 v.subs.length))),(26,.d (.sl 4 (v.subs.map encN))),(8,.ptr 5 0),(5,.ptr 2 0)]∧
     h=[.gone,.row 58 3 1 (dRows (v.ranges.map encG)),.box 55 [.d (.v (.int .i64 v.id)),.own 1 1,.own 3 k],.row 71 4 k (dRows ((pre.take k).map encN)),.gone,.box 71 [.d (.v (.int .i64 s0.id)),.d (.v (.int .i64 s0.at_.at_)),.d (.v (.int .i64 s0.at_.len)),.own 6 j],.row 74 2 j (dRows ((preF.take j).map encF))])∨
     ∃j i,j=preF.length+1+i∧i≤postF.length∧m=s0.faces.length - j∧e=[(40,.d (.v (.int .i64 j))),(39,.d (.v (.int .i64 s0.faces.length))),(38,.d (.sl 2 (s0.faces.map encF))),(28,.d (.v (.int .i64 k))),(27,.d (.v (.int .i64 v.subs.length))),(26,.d (.sl 4 (v.subs.map encN))),(8,.ptr 5 0),(5,.ptr 2 0)]∧
      h=[.gone,.row 58 3 1 (dRows (v.ranges.map encG)),.box 55 [.d (.v (.int .i64 v.id)),.own 1 1,.own 3 k],.row 71 4 k (dRows ((pre.take k).map encN)),.gone,.box 71 [.d (.v (.int .i64 s0.id)),.d (.v (.int .i64 s0.at_.at_)),.d (.v (.int .i64 s0.at_.len)),.own 6 j],.row 74 2 j (zipG encF preF (faceRow f0 (.own 8 1)) (postF.take i)),.gone,.row 3 1 1 (dRows (f0.addrs.map encA))]) _ _ _ (.inl ⟨0,Nat.zero_le _,rfl,rfl,rfl⟩) ?_ ?_
    ·refine(weak_gone 4 (by simp)).trans ((weak_adopt_box (by simp) 5 71 [.d (.v (.int .i64 s0.id)),.d (.v (.int .i64 s0.at_.at_)),.d (.v (.int .i64 s0.at_.len)),.d (.v (.slice none 0 0))] 3 74 2 rfl rfl rfl).trans ?_)
     exact weak_forget _ (by simp) (by rfl) se bz2 bz2
    ·rintro m2 e h (⟨j,hj,hm2,rfl,rfl⟩|⟨j,i,hji,hi,hm2,rfl,rfl⟩) C hC
     ·have hjI:(j:Int) < (s0.faces.length:Int):=by have:=hlenF2.out;omega
      have hwj:IntKind.i64.wrap ((j:Int)+1)=((j+1:Nat):Int):=by rw[IntKind.wrap_i64];have:=h8s.1;omega
      have hb2:j+1≤100:=by have:=h8s.1;omega
      have hlj:(List.take j preF).length=j:=by rw[List.length_take];omega
      have hm2:=Lib.hid hm2
      by_cases hjp:j < preF.length
      ·obtain⟨f,hq⟩:∃f,preF[j]? =some f:=⟨_,List.getElem?_eq_getElem hjp⟩
       have hf:s0.faces[j]? =some f:=by rw[hLF.out,List.getElem?_append_left hjp];exact hq
       have hfl:=h8s.2 f (List.mem_of_getElem? hf)
       replace hf:=Lib.hid hf
       replace hq:=Lib.hid hq
       have hf1:=hf.out
       have z1z:=Ln.mk (ls:=[]) (clone_int f.addrs (by omega))
       refine wk1 ?_<;>intros
       refine hC _ _ _ _ _ ?_ (.inl ⟨j+1,hjp,rfl,rfl,rfl⟩) ((weak_freeze 8 1 3 1 (f.addrs.map encA) rfl).trans ?_)
       ·have:=hm2.out;have:=hlenF2.out;omega
       simp only[fzE,fz,fzL,fzH,fzC,fzR,fzR_app,fzR_d,fzL_d,List.map_cons,List.map_nil,Nat.reduceAdd,Nat.reduceEqDiff,reduceIte,and_true,true_and,and_self,and_false,false_and,Nat.zero_add,Nat.add_zero,reduceCtorEq,fzR_zipG]
       exact weak_forget _ (by simp) (by rw[take_snoc hq.out,List.map_append,List.map_cons,List.map_nil,←dRows_app];rfl) se bz2 bz2
      ·obtain rfl:j=preF.length:=by omega
       have hf:s0.faces[preF.length]? =some f0:=by rw[hLF.out,List.getElem?_append_right (Nat.le_refl _),Nat.sub_self];rfl
       have hfl:=h8s.2 f0 (List.mem_of_getElem? hf)
       replace hf:=Lib.hid hf
       have hf1:=hf.out
       have z1z:=Ln.mk (ls:=[]) (clone_int f0.addrs (by omega))
       refine wk1 ?_<;>intros
       refine hC _ _ _ _ _ ?_ (.inr ⟨preF.length+1,0,rfl,Nat.zero_le _,rfl,rfl,rfl⟩) ((weak_gone 7 (by simp)).trans ?_)
       ·have:=hm2.out;have:=hlenF2.out;omega
       exact weak_forget _ (by simp) (by rfl) se bz2 bz2
     ·have hm2:=Lib.hid hm2
      have hji2:=Lib.hid hji
      have hb2:preF.length+1+i+1≤100:=by have:=hlenF2.out;have:=h8s.1;omega
      have hli:(List.take i postF).length=i:=by rw[List.length_take];omega
      have hjl:j≤s0.faces.length:=by have:=hlenF2.out;omega
      by_cases hip:i < postF.length
      ·obtain⟨f,hq⟩:∃f,postF[i]? =some f:=⟨_,List.getElem?_eq_getElem hip⟩
       have hf:s0.faces[j]? =some f:=by
        rw[hLF.out,List.getElem?_append_right (by omega),show j - preF.length=i+1 by omega,List.getElem?_cons_succ];exact hq
       have hfl:=h8s.2 f (List.mem_of_getElem? hf)
       have hjI:(j:Int) < (s0.faces.length:Int):=by have:=hlenF2.out;omega
       have hwj:IntKind.i64.wrap ((j:Int)+1)=((j+1:Nat):Int):=by rw[IntKind.wrap_i64];have:=h8s.1;omega
       replace hf:=Lib.hid hf
       replace hq:=Lib.hid hq
       have hf1:=hf.out
       clear hji
       have z1z:=Ln.mk (ls:=[]) (clone_int f.addrs (by omega))
       refine wk1 ?_<;>intros
       refine hC _ _ _ _ _ ?_ (.inr ⟨j+1,i+1,by have:=hji2.out;omega,hip,rfl,rfl,rfl⟩) ((weak_freeze 10 1 3 1 (f.addrs.map encA) rfl).trans ?_)
       ·have:=hm2.out;have:=hlenF2.out;have:=hji2.out;omega
       simp only[fzE,fz,fzL,fzH,fzC,fzR,fzR_app,fzR_d,fzL_d,List.map_cons,List.map_nil,Nat.reduceAdd,Nat.reduceEqDiff,reduceIte,and_true,true_and,and_self,and_false,false_and,Nat.zero_add,Nat.add_zero,reduceCtorEq,fzR_zipG,faceRow]
       exact weak_forget _ (by simp) (by rw[take_snoc hq.out,←zipG_snoc];rfl) se bz2 bz2
      ·obtain rfl:i=postF.length:=by omega
       obtain rfl:j=s0.faces.length:=by have:=hlenF2.out;omega
       clear hji
       have hlk2:(List.take k pre).length=k:=by rw[hk2.out,List.take_length]
       refine wk1 ?_<;>intros
       refine hCO _ _ _ _ _ ?_ (.inr ⟨k+1,0,by rw[hk2.out],Nat.zero_le _,rfl,rfl,rfl⟩) ((weak_gone 5 (by simp)).trans ?_)
       ·have:=hm.out;have:=hlen2.out;have:=hk2.out;omega
       exact weak_forget _ (by simp) (by rw[hk2.out,List.take_length];rfl) se bz2 bz2
  ·have hm:=Lib.hid hm
   have hkj2:=Lib.hid hkj
   have hb1:pre.length+1+q+1≤100:=by have:=hlen2.out;omega
   have hlk:(List.take q post).length=q:=by rw[List.length_take];omega
   have hkl:k≤v.subs.length:=by have:=hlen2.out;omega
   by_cases hjp:q < post.length
   ·obtain⟨s,hq⟩:∃s,post[q]? =some s:=⟨_,List.getElem?_eq_getElem hjp⟩
    have hs:v.subs[k]? =some s:=by
     rw[hL.out,List.getElem?_append_right (by omega),show k - pre.length=q+1 by omega,List.getElem?_cons_succ];exact hq
    have h8s:=h8.out s (List.mem_of_getElem? hs)
    have hkI:(k:Int) < (v.subs.length:Int):=by have:=hlen2.out;omega
    have hwr:=wi k (by omega)
    replace hq:=Lib.hid hq
    replace hs:=Lib.hid hs
    have hs1:=hs.out
    clear hkj
    refine wk1 ?_<;>intros
    refine loopL tab_ok mixed s.faces (fun _=>True) (fun j=>[(40,.d (.v (.int .i64 j))),(39,.d (.v (.int .i64 s.faces.length))),(38,.d (.sl 2 (s.faces.map encF))),(28,.d (.v (.int .i64 k))),(27,.d (.v (.int .i64 v.subs.length))),(26,.d (.sl 4 (v.subs.map encN))),(8,.ptr 10 0),(5,.ptr 2 0)])
     (fun j=>[.gone,.row 58 3 1 (dRows (v.ranges.map encG)),.box 55 [.d (.v (.int .i64 v.id)),.own 1 1,.own 3 k],.row 71 4 k (zipG encN pre (subRow s0 (.own 6 s0.faces.length)) (post.take q)),.gone,.gone,.row 74 2 s0.faces.length (zipG encF preF (faceRow f0 (.own 8 1)) postF),.gone,.row 3 1 1 (dRows (f0.addrs.map encA)),.gone,.box 71 [.d (.v (.int .i64 s.id)),.d (.v (.int .i64 s.at_.at_)),.d (.v (.int .i64 s.at_.len)),.own 11 j],.row 74 2 j (dRows ((s.faces.take j).map encF))]) trivial ?_ ?_ ?_
    ·refine(weak_gone 9 (by simp)).trans ((weak_adopt_box (by simp) 10 71 [.d (.v (.int .i64 s.id)),.d (.v (.int .i64 s.at_.at_)),.d (.v (.int .i64 s.at_.len)),.d (.v (.slice none 0 0))] 3 74 2 rfl rfl rfl).trans ?_)
     exact weak_forget _ (by simp) (by rfl) se bz2 bz2
    ·intro j f hf hj _ C hC
     have hjI:(j:Int) < (s.faces.length:Int):=by omega
     have hwj:=wi j (by omega)
     have hfl:=h8s.2 f (List.mem_of_getElem? hf)
     have hb2:j+1≤100:=by omega
     have hlj:(List.take j s.faces).length=j:=by rw[List.length_take];omega
     replace hf:=Lib.hid hf
     have hf1:=hf.out
     have z1z:=Ln.mk (ls:=[]) (clone_int f.addrs (by omega))
     refine wk1 ?_<;>intros
     refine hC _ _ trivial ((weak_freeze 13 1 3 1 (f.addrs.map encA) rfl).trans ?_)
     simp only[fzE,fz,fzL,fzH,fzC,fzR,fzR_app,fzR_d,fzL_d,List.map_cons,List.map_nil,Nat.reduceAdd,Nat.reduceEqDiff,reduceIte,and_true,true_and,and_self,and_false,false_and,Nat.zero_add,Nat.add_zero,reduceCtorEq,fzR_zipG]
     exact weak_forget _ (by simp) (by rw[take_snoc hf.out,List.map_append,List.map_cons,List.map_nil,←dRows_app];rfl) se bz2 bz2
    ·intro _ C
     refine wk1 ?_<;>intros
     refine hCO _ _ _ _ _ ?_ (.inr ⟨k+1,q+1,by have:=hkj2.out;omega,hjp,rfl,rfl,rfl⟩) ((weak_freeze 11 s.faces.length 74 2 (s.faces.map encF) rfl).trans ?_)
     ·have:=hm.out;have:=hlen2.out;have:=hkj2.out;omega
     simp only[fzE,fz,fzL,fzH,fzC,fzR,fzR_app,fzR_d,fzL_d,List.map_cons,List.map_nil,Nat.reduceAdd,Nat.reduceEqDiff,reduceIte,and_true,true_and,and_self,and_false,false_and,Nat.zero_add,Nat.add_zero,reduceCtorEq,fzR_zipG,subRow]
     exact weak_forget _ (by simp) (by rw[take_snoc hq.out,←zipG_snoc];rfl) se bz2 bz2
   ·obtain rfl:q=post.length:=by omega
    obtain rfl:k=v.subs.length:=by have:=hlen2.out;omega
    clear hkj
    refine wk1 ?_<;>intros
    (try rw[List.take_length])
    exact weak_eq rfl rfl
theorem delete_Range {α:Type}{enc:α→List D}(l:List α)(i j g:Nat)(hi:i < l.length)(hj:j=i+1):
 MSpec Tryz.prog 147 [.own 0 g,.d (.v (.int .i64 i)),.d (.v (.int .i64 j))] [.row 58 3 g (dRows (l.map enc))] (.own 0 (g+1)) [.row 58 3 (g+1) (dRows ((l.eraseIdx i).map enc))]:=by
 have h1:((i:Int)==(j:Int))=false:=by simp;omega
 have hne:¬dRows (l.map enc)=[]:=by cases l<;>simp[dRows]at hi ⊢
 have hle:(i:Int)≤(j:Int):=by omega
 have hle2:(j:Int)≤(l.length:Int):=by omega
 have hlm:(l.map enc).length=l.length:=List.length_map _
 have h2:=del_len (dRows (l.map enc)) i j l.length (by rw[dRows_len,hlm];exact hi) hj (by rw[dRows_len,hlm])
 rw[dRows_len,hlm]at h2
 have hj1:=Lib.hid hj
 clear hj
 have hj2:j≤l.length:=by have:=hj1.out;omega
 have hmin:min (l.length - j) (l.length - j)=l.length - j:=Nat.min_self _
 have hlt:i+(l.length - j)≤l.length:=by have:=hj1.out;omega
 have hk1:l.length - (i+(l.length - j))=1:=by have:=hj1.out;omega
 have hk2:i+(l.length - j)+1≤l.length:=by have:=hj1.out;omega
 have hne2:¬setAt (dRows (l.map enc)) i (((dRows (l.map enc)).drop j).take (l.length - j))=[]:=by
  intro h
  rw[h]at h2;simp at h2;omega
 refine mj Tryz.func147 Tryz.ntmps147 Tryz.results147 ?_
 repeat' (first|(with_reducible refine And.intro ?_ ?_)|(with_reducible refine gK_i (fun _=>?_) (fun _=>?_))|(with_reducible refine condS_i (fun _=>?_) (fun _=>?_))|(with_reducible refine drw_i (by kernel_rfl))|simp -dsimp only[go_sem,seval, *,h1,hne,Nat.sub_zero,List.length_take,List.length_drop]|((with_reducible refine opK_c ?_);simp -dsimp only[go_sem,seval,h1,hne,Nat.sub_zero,List.length_take,List.length_drop];first|refine callK_r (by first|assumption|fail) (by first|exact .inl rfl|exact .inr rfl) ?_|refine callK_i (by assumption) (by repeat(first|exact DLe.refl _|exact DLe.nil _|(refine DLe.tup ?_)|(refine DLe.agg ?_ rfl)|exact trivial|(refine And.intro ?_ ?_))) (by first|exact .inl rfl|exact .inr rfl) ?_)|omega|exact decide_eq_true (by omega)|exact DLe.refl _)
 rw[map_erase]
 exact del_weak (by rw[hlm];exact hi) hj1.out hlm.symm
theorem delete_Sub {α:Type}{enc:α→List D}(l:List α)(i j g:Nat)(hi:i < l.length)(hj:j=i+1):
 MSpec Tryz.prog 154 [.own 0 g,.d (.v (.int .i64 i)),.d (.v (.int .i64 j))] [.row 71 4 g (dRows (l.map enc))] (.own 0 (g+1)) [.row 71 4 (g+1) (dRows ((l.eraseIdx i).map enc))]:=by
 have h1:((i:Int)==(j:Int))=false:=by simp;omega
 have hne:¬dRows (l.map enc)=[]:=by cases l<;>simp[dRows]at hi ⊢
 have hle:(i:Int)≤(j:Int):=by omega
 have hle2:(j:Int)≤(l.length:Int):=by omega
 have hlm:(l.map enc).length=l.length:=List.length_map _
 have h2:=del_len (dRows (l.map enc)) i j l.length (by rw[dRows_len,hlm];exact hi) hj (by rw[dRows_len,hlm])
 rw[dRows_len,hlm]at h2
 have hj1:=Lib.hid hj
 clear hj
 have hj2:j≤l.length:=by have:=hj1.out;omega
 have hmin:min (l.length - j) (l.length - j)=l.length - j:=Nat.min_self _
 have hlt:i+(l.length - j)≤l.length:=by have:=hj1.out;omega
 have hk1:l.length - (i+(l.length - j))=1:=by have:=hj1.out;omega
 have hk2:i+(l.length - j)+1≤l.length:=by have:=hj1.out;omega
 have hne2:¬setAt (dRows (l.map enc)) i (((dRows (l.map enc)).drop j).take (l.length - j))=[]:=by
  intro h
  rw[h]at h2;simp at h2;omega
 refine mj Tryz.func154 Tryz.ntmps154 Tryz.results154 ?_
 repeat' (first|(with_reducible refine And.intro ?_ ?_)|(with_reducible refine gK_i (fun _=>?_) (fun _=>?_))|(with_reducible refine condS_i (fun _=>?_) (fun _=>?_))|(with_reducible refine drw_i (by kernel_rfl))|simp -dsimp only[go_sem,seval, *,h1,hne,Nat.sub_zero,List.length_take,List.length_drop]|((with_reducible refine opK_c ?_);simp -dsimp only[go_sem,seval,h1,hne,Nat.sub_zero,List.length_take,List.length_drop];first|refine callK_r (by first|assumption|fail) (by first|exact .inl rfl|exact .inr rfl) ?_|refine callK_i (by assumption) (by repeat(first|exact DLe.refl _|exact DLe.nil _|(refine DLe.tup ?_)|(refine DLe.agg ?_ rfl)|exact trivial|(refine And.intro ?_ ?_))) (by first|exact .inl rfl|exact .inr rfl) ?_)|omega|exact decide_eq_true (by omega)|exact DLe.refl _)
 rw[map_erase]
 exact del_weak (by rw[hlm];exact hi) hj1.out hlm.symm
theorem delete_Face {α:Type}{enc:α→List D}(l:List α)(i j g:Nat)(hi:i < l.length)(hj:j=i+1):
 MSpec Tryz.prog 159 [.own 0 g,.d (.v (.int .i64 i)),.d (.v (.int .i64 j))] [.row 74 2 g (dRows (l.map enc))] (.own 0 (g+1)) [.row 74 2 (g+1) (dRows ((l.eraseIdx i).map enc))]:=by
 have h1:((i:Int)==(j:Int))=false:=by simp;omega
 have hne:¬dRows (l.map enc)=[]:=by cases l<;>simp[dRows]at hi ⊢
 have hle:(i:Int)≤(j:Int):=by omega
 have hle2:(j:Int)≤(l.length:Int):=by omega
 have hlm:(l.map enc).length=l.length:=List.length_map _
 have h2:=del_len (dRows (l.map enc)) i j l.length (by rw[dRows_len,hlm];exact hi) hj (by rw[dRows_len,hlm])
 rw[dRows_len,hlm]at h2
 have hj1:=Lib.hid hj
 clear hj
 have hj2:j≤l.length:=by have:=hj1.out;omega
 have hmin:min (l.length - j) (l.length - j)=l.length - j:=Nat.min_self _
 have hlt:i+(l.length - j)≤l.length:=by have:=hj1.out;omega
 have hk1:l.length - (i+(l.length - j))=1:=by have:=hj1.out;omega
 have hk2:i+(l.length - j)+1≤l.length:=by have:=hj1.out;omega
 have hne2:¬setAt (dRows (l.map enc)) i (((dRows (l.map enc)).drop j).take (l.length - j))=[]:=by
  intro h
  rw[h]at h2;simp at h2;omega
 refine mj Tryz.func159 Tryz.ntmps159 Tryz.results159 ?_
 repeat' (first|(with_reducible refine And.intro ?_ ?_)|(with_reducible refine gK_i (fun _=>?_) (fun _=>?_))|(with_reducible refine condS_i (fun _=>?_) (fun _=>?_))|(with_reducible refine drw_i (by kernel_rfl))|simp -dsimp only[go_sem,seval, *,h1,hne,Nat.sub_zero,List.length_take,List.length_drop]|((with_reducible refine opK_c ?_);simp -dsimp only[go_sem,seval,h1,hne,Nat.sub_zero,List.length_take,List.length_drop];first|refine callK_r (by first|assumption|fail) (by first|exact .inl rfl|exact .inr rfl) ?_|refine callK_i (by assumption) (by repeat(first|exact DLe.refl _|exact DLe.nil _|(refine DLe.tup ?_)|(refine DLe.agg ?_ rfl)|exact trivial|(refine And.intro ?_ ?_))) (by first|exact .inl rfl|exact .inr rfl) ?_)|omega|exact decide_eq_true (by omega)|exact DLe.refl _)
 rw[map_erase]
 exact del_weak (by rw[hlm];exact hi) hj1.out hlm.symm
section
open Go.Proofs Go.Shelf
theorem cl_Sub (x y:SRow HP0 4)(W:World):Calls Tryz.prog 152 #[.agg x.xs.toArray,.agg y.xs.toArray] W fun e w'=>e= .returned (.int .i64 (cfS x y))∧∃q os',w'=Sort.grow (W.drewN q) os':=by
 obtain⟨xs,xl,x1,a,xh⟩:=x
 obtain⟨ys,yl,y1,b,yh⟩:=y
 match xs,xl,ys,yl with
 |[u0,u1,u2,u3],_,[v0,v1,v2,v3],_=>
  simp[HP0]at xh yh
  subst xh
  subst yh
  have hc:=compare_any a b
  unfold cfS
  simp only
  generalize cmpI a b=r at*
  replace hc:=Lib.hid hc
  clear x1 y1
  go_enter Tryz.func152,Tryz.ntmps152
  go_wp2_with fail
  refine(hc.out _).mono ?_
  rintro e w1 ⟨rfl,rfl⟩
  go_wp2_with fail
  go_ret
  exact⟨ret_int rfl,0,_,by rw[Sort.alloc_eq_grow,Sort.alloc_eq_grow,Sort.grow_grow];rfl⟩
theorem sort_Sub {l l':List Sbn}(g:Nat)(hl0:l≠[])(hp:l'.Perm l)(hs:l'.Pairwise fun x y=>(fun s:Sbn=>s.id) x < (fun s:Sbn=>s.id) y)(hsz:l.length≤1000000):
 MSpec Tryz.prog 151 [.own 0 g,.d (.clo 152 [])] [.row 71 4 g (dRows (l.map encN))] (.d (.tup [])) [.row 71 4 g (dRows (l'.map encN))]:=
 sort_ms Tryz.sortSub rfl (fnok_of Tryz.func151 (by kernel_rfl) rfl) Tryz.isAgg71 Tryz.sizeOf71 (enters_of Tryz.func152 (by kernel_rfl) rfl) cl_Sub encN (fun s:Sbn=>s.id) (fun _=>rfl) hl0 hp hs hsz
theorem cl_Face (x y:SRow HP0 2)(W:World):Calls Tryz.prog 157 #[.agg x.xs.toArray,.agg y.xs.toArray] W fun e w'=>e= .returned (.int .i64 (cfS x y))∧∃q os',w'=Sort.grow (W.drewN q) os':=by
 obtain⟨xs,xl,x1,a,xh⟩:=x
 obtain⟨ys,yl,y1,b,yh⟩:=y
 match xs,xl,ys,yl with
 |[u0,u1],_,[v0,v1],_=>
  simp[HP0]at xh yh
  subst xh
  subst yh
  have hc:=compare_any a b
  unfold cfS
  simp only
  generalize cmpI a b=r at*
  replace hc:=Lib.hid hc
  clear x1 y1
  go_enter Tryz.func157,Tryz.ntmps157
  go_wp2_with fail
  refine(hc.out _).mono ?_
  rintro e w1 ⟨rfl,rfl⟩
  go_wp2_with fail
  go_ret
  exact⟨ret_int rfl,0,_,by rw[Sort.alloc_eq_grow,Sort.alloc_eq_grow,Sort.grow_grow];rfl⟩
theorem sort_Face {l l':List Fce}(g:Nat)(hl0:l≠[])(hp:l'.Perm l)(hs:l'.Pairwise fun x y=>(fun f:Fce=>f.id) x < (fun f:Fce=>f.id) y)(hsz:l.length≤1000000):
 MSpec Tryz.prog 156 [.own 0 g,.d (.clo 157 [])] [.row 74 2 g (dRows (l.map encF))] (.d (.tup [])) [.row 74 2 g (dRows (l'.map encF))]:=
 sort_ms Tryz.sortFace rfl (fnok_of Tryz.func156 (by kernel_rfl) rfl) Tryz.isAgg74 Tryz.sizeOf74 (enters_of Tryz.func157 (by kernel_rfl) rfl) cl_Face encF (fun f:Fce=>f.id) (fun _=>rfl) hl0 hp hs hsz
end
def Rng.zero:Rng:=⟨⟨0,0⟩,0⟩
def dropV (v:Vpc)(p:Pfx):Vpc × Rng × Int:=
 if chkV v≠0 then (Vpc.zero,Rng.zero,chkV v)else
 match v.ranges.findIdx? (fun r=>decide (r.at_=p))with
 |none=>(Vpc.zero,Rng.zero,5)
 |some i=>if (v.subs.any fun s=>insQ s.at_ p)=true then (Vpc.zero,Rng.zero,9)else ({v with ranges:=v.ranges.eraseIdx i},v.ranges.getD i Rng.zero,0)
theorem drop1_p (r:Rng)(p:Pfx):PSpec Tryz.prog 144 [.agg (encG r),.ept (encP p)] (.v (.bool (decide (r.at_=p)))):=by
 have he:=eqP_list r.at_ p
 rw[←he]
 replace he:=Lib.hid he
 refine pj Tryz.func144 Tryz.ntmps144 Tryz.results144 ?_
 exact wk0
theorem drop2_p (s:Sbn)(p:Pfx):PSpec Tryz.prog 146 [.agg (encN s),.ept (encP p)] (.v (.bool (insQ s.at_ p))):=by
 have hi:PSpec Tryz.prog 43 [.agg (encP s.at_),.agg (encP p)] (.v (.bool (insQ s.at_ p))):=inside_p _ _
 refine pj Tryz.func146 Tryz.ntmps146 Tryz.results146 ?_
 exact wk0
theorem vdrop_p (v:Vpc)(p:Pfx):PSpec Tryz.prog 69 [.agg (encV v),.agg (encP p)] (.tup [.agg (encV (dropV v p).1),.agg (encG (dropV v p).2.1),.v (.int .i64 (dropV v p).2.2)]):=by
 obtain⟨R,hR⟩:∃R,R=dropV v p:=⟨_,rfl⟩
 rw[←hR]
 replace hR:=Lib.hid hR
 by_cases hc:chkV v=0
 ·have hk:=vpcOK_of hc
  have hbg:=beginD_m v hc hk.n4 hk.n6 hk.n8
  have hix:=idxf_Range encG_len (fun r=>decide (r.at_=p)) v.ranges 144 [.ept (encP p)] (by have:=hk.n4;omega) (fun r _=>drop1_p r p)
  have hcn:=cntf_Sub encN_len (fun s=>insQ s.at_ p) v.subs 146 [.ept (encP p)] (by have:=hk.n6;omega) (fun s _=>drop2_p s p)
  unfold idxI at hix
  cases hf:v.ranges.findIdx? (fun r=>decide (r.at_=p))with
  |none=>
   rw[hf]at hix
   have hr:R=(Vpc.zero,Rng.zero,5):=by rw[hR.out];unfold dropV;rw[if_neg (by simpa using hc),hf]
   rw[hr]
   clear hr hR hf hc hk
   refine pj Tryz.func69 Tryz.ntmps69 Tryz.results69 ?_
   have z1z:=Ln.mk (ls:=[]) (hbg)
   refine wk1 ?_<;>intros
   exact dg
  |some i=>
   rw[hf]at hix
   have hi:i < v.ranges.length:=(List.findIdx?_eq_some_iff_getElem.1 hf).1
   obtain⟨g,hg⟩:∃g,v.ranges[i]? =some g:=⟨_,List.getElem?_eq_getElem hi⟩
   have hi0:decide ((i:Int) < 0)=false:=by simp
   have hn4:=hk.n4
   cases ha:v.subs.any fun s=>insQ s.at_ p with
   |true=>
    rw[ha]at hcn
    have hr:R=(Vpc.zero,Rng.zero,9):=by rw[hR.out];unfold dropV;rw[if_neg (by simpa using hc),hf];simp only;rw[if_pos ha]
    rw[hr]
    clear hr hR hf hc hk
    refine pj Tryz.func69 Tryz.ntmps69 Tryz.results69 ?_
    have z1z:=Ln.mk (ls:=[]) (hbg)
    refine wk1 ?_<;>intros
    exact dg
   |false=>
    rw[ha]at hcn
    have hr:R=({v with ranges:=v.ranges.eraseIdx i},g,0):=by
     rw[hR.out];unfold dropV;rw[if_neg (by simpa using hc),hf];simp only;rw[if_neg (by simp[ha])]
     rw[List.getD_eq_getElem?_getD,hg];rfl
    have hd:=delete_Range (enc:=encG) v.ranges i (i+1) 1 hi rfl
    have hwr:=wi i (by omega)
    rw[hr]
    clear hr hR hf hc hk
    refine pj Tryz.func69 Tryz.ntmps69 Tryz.results69 ?_
    have z1z:=Ln.mk (ls:=[]) (hbg)
    have z2z:=Ln.mk (ls:=[5]) (hd)
    exact wk0
    all_goals exact dg
 ·have hbg:=beginE_m v hc
  have h1:(chkV v !=0)=true:=by simpa using hc
  have hr:R=(Vpc.zero,Rng.zero,chkV v):=by rw[hR.out];unfold dropV;rw[if_pos hc]
  rw[hr]
  replace hr:=Lib.hid hr
  refine pj Tryz.func69 Tryz.ntmps69 Tryz.results69 ?_
  have z1z:=Ln.mk (ls:=[]) (hbg)
  refine wk1 ?_<;>intros
  exact dg
def subErr (v:Vpc)(id:Int)(p:Pfx):Int:=
 if idOK id=false∨holdsV v p=false then 3 else
 if (v.subs.any fun s=>(s.id==id)||s.at_.meets p)=true then 6 else if v.subs.length=6 then 2 else 0
def subV (v:Vpc)(id:Int)(p:Pfx):Vpc × Int:=
 if chkV v≠0 then (Vpc.zero,chkV v)else if subErr v id p≠0 then (Vpc.zero,subErr v id p)else ({v with subs:=insK (·.id) ⟨id,p,[]⟩ v.subs},0)
theorem sub1_p (s:Sbn)(id:Int)(p:Pfx):PSpec Tryz.prog 150 [.agg (encN s),.ept [.v (.int .i64 id)],.ept (encP p)] (.v (.bool ((s.id==id)||s.at_.meets p))):=by
 have hm:PSpec Tryz.prog 19 [.agg (encP s.at_),.agg (encP p)] (.v (.bool (s.at_.meets p))):=meets_p _ _
 cases h1:s.id==id
 all_goals
  refine pj Tryz.func150 Tryz.ntmps150 Tryz.results150 ?_
  exact wk0
theorem vsub_p (v:Vpc)(id:Int)(p:Pfx):PSpec Tryz.prog 70 [.agg (encV v),.v (.int .i64 id),.agg (encP p)] (.tup [.agg (encV (subV v id p).1),.v (.int .i64 (subV v id p).2)]):=by
 obtain⟨R,hR⟩:∃R,R=subV v id p:=⟨_,rfl⟩
 rw[←hR]
 replace hR:=Lib.hid hR
 by_cases hc:chkV v=0
 ·have hk:=vpcOK_of hc
  have hbg:=beginD_m v hc hk.n4 hk.n6 hk.n8
  have hid:=vids_p id
  have hho:=vholds_p v p (by have:=hk.n4;omega)
  have hcn:=cntf_Sub encN_len (fun s=>(s.id==id)||s.at_.meets p) v.subs 150 [.ept [.v (.int .i64 id)],.ept (encP p)] (by have:=hk.n6;omega) (fun s _=>sub1_p s id p)
  have hR2:R=if subErr v id p≠0 then (Vpc.zero,subErr v id p)else ({v with subs:=insK (·.id) ⟨id,p,[]⟩ v.subs},0):=by rw[hR.out];unfold subV;rw[if_neg (by simpa using hc)]
  have hn6:=hk.n6
  by_cases hbad:subErr v id p≠0
  ·rw[if_pos hbad]at hR2
   unfold subErr at hR2 hbad
   generalize holdsV v p=K at*
   generalize idOK id=I at*
   generalize (v.subs.any fun s=>(s.id==id)||s.at_.meets p)=M at*
   replace hR2:=Lib.hid hR2
   replace hbad:=Lib.hid hbad
   clear hR hc hk
   have hl4:((v.subs.length:Int)==6)=decide (v.subs.length=6):=by rw[Bool.eq_iff_iff];simp;omega
   refine pj Tryz.func70 Tryz.ntmps70 Tryz.results70 ?_
   repeat' (first|(with_reducible refine And.intro ?_ ?_)|(with_reducible refine gK_i (fun _=>?_) (fun _=>?_))|(with_reducible refine condS_i (fun _=>?_) (fun _=>?_))|(with_reducible refine drw_i (by kernel_rfl))|simp -dsimp only[go_sem,seval, *,encV,encP,hl4]|((with_reducible refine opK_c ?_);simp -dsimp only[go_sem,seval,encV,encP,hl4];first|refine callK_r (by first|assumption|exact hid|exact hho|exact hcn) (by first|exact .inl rfl|exact .inr rfl) ?_|(refine callK_i (by assumption) ?_ ?_ ?_;(solve|(repeat(first|exact DLe.refl _|exact DLe.nil _|(refine DLe.tup ?_)|(refine DLe.agg ?_ rfl)|exact trivial|(refine And.intro ?_ ?_))));(solve|exact .inl rfl|exact .inr rfl)))|(refine opK_M [] (hbg) ?_ ?_ ?_ ?_ ?_ ?_;(solve|rfl|simp only[go_sem,seval,encV]);(solve|rfl);(solve|decide);(solve|simp);(solve|simp only[go_sem,seval,lentOK,encV]))|omega|exact decide_eq_true (by omega)|exact DLe.refl _)
   all_goals
    have h1:=hR2.out
    have h2:=hbad.out
    clear hid hho hcn hbg
    first
     |(exfalso;grind)
     |(rw[show R=(Vpc.zero,3) from (by rw[h1];grind)];exact dg)
     |(rw[show R=(Vpc.zero,6) from (by rw[h1];grind)];exact dg)
     |(rw[show R=(Vpc.zero,2) from (by rw[h1];grind)];exact dg)
  ·rw[if_neg hbad]at hR2
   have hg:subErr v id p=0:=by simpa using hbad
   obtain⟨g1,g2,g3,g4⟩:holdsV v p=true∧idOK id=true∧(v.subs.any fun s=>(s.id==id)||s.at_.meets p)=false∧v.subs.length≠6:=by
    unfold subErr at hg
    generalize (v.subs.any fun s=>(s.id==id)||s.at_.meets p)=M at*
    grind
   have hne:∀s∈v.subs,s.id≠(⟨id,p,[]⟩:Sbn).id:=fun s hs=>by have:=List.any_eq_false.1 g3 s hs;simp at this;exact this.1
   have hso:=sort_Sub (l:=v.subs++[⟨id,p,[]⟩]) (l':=insK (·.id) ⟨id,p,[]⟩ v.subs) (v.subs.length+1) (by simp) (insK_perm _ _ _) (insK_sorted hk.rs hne) (by simp;omega)
   rw[g1]at hho
   rw[g2]at hid
   rw[g3]at hcn
   have hl4:((v.subs.length:Int)==6)=false:=by simp;omega
   have hb1:v.subs.length+1≤100:=by omega
   simp only[List.map_append,List.map_cons,List.map_nil]at hso
   have hso:=hso.leh (rles_mid (A:=v.subs.map encN) (B:=[]) (r:=[.v (.int .i64 id),.v (.int .i64 p.at_),.v (.int .i64 p.len),.v (.slice none 0 0)]) dg) (by have:=dRows_one2 (enc:=encN) (fun _=>rfl) (v.subs++[⟨id,p,[]⟩]);simpa using this) (belowR_d _ _)
   rw[hR2]
   clear hR hR2 hc hk hne hg hbad
   refine pj Tryz.func70 Tryz.ntmps70 Tryz.results70 ?_
   have z1z:=Ln.mk (ls:=[]) (hbg)
   have z2z:=Ln.mk (ls:=[7]) (hso)
   exact wk0
 ·have hbg:=beginE_m v hc
  have h1:(chkV v !=0)=true:=by simpa using hc
  have hr:R=(Vpc.zero,chkV v):=by rw[hR.out];unfold subV;rw[if_pos hc]
  rw[hr]
  replace hr:=Lib.hid hr
  refine pj Tryz.func70 Tryz.ntmps70 Tryz.results70 ?_
  have z1z:=Ln.mk (ls:=[]) (hbg)
  refine wk1 ?_<;>intros
  exact dg
def faceIx (v:Vpc)(i:Nat)(id:Int):Int:=match v.subs[i]? with|some s=>idxI (fun f=>f.id==id) s.faces|none=> -1
def findV (v:Vpc)(sub id:Int):Int × Int:=match v.subs.findIdx? (fun s=>s.id==sub)with|none=>(-1,-1)|some i=>(i,faceIx v i id)
theorem vfind1_p (s:Sbn)(id:Int):PSpec Tryz.prog 216 [.agg (encN s),.ept [.v (.int .i64 id)]] (.v (.bool (s.id==id))):=by
 refine pj Tryz.func216 Tryz.ntmps216 Tryz.results216 ?_
 exact wk0
theorem vfind2_p (f:Fce)(id:Int):PSpec Tryz.prog 218 [.agg (encF f),.ept [.v (.int .i64 id)]] (.v (.bool (f.id==id))):=by
 refine pj Tryz.func218 Tryz.ntmps218 Tryz.results218 ?_
 exact wk0
theorem vfind_p (v:Vpc)(sub id:Int)(h6:v.subs.length≤6)(h8:∀s∈v.subs,s.faces.length≤8):PSpec Tryz.prog 153 [.ept (encV v),.v (.int .i64 sub),.v (.int .i64 id)] (.tup [.v (.int .i64 (findV v sub id).1),.v (.int .i64 (findV v sub id).2)]):=by
 have hix:=idxf_Sub encN_len (fun s=>s.id==sub) v.subs 216 [.ept [.v (.int .i64 sub)]] (by omega) (fun s _=>vfind1_p s sub)
 unfold findV
 unfold idxI at hix
 cases hf:v.subs.findIdx? (fun s=>s.id==sub)with
 |none=>
  rw[hf]at hix
  replace hf:=Lib.hid hf
  refine pj Tryz.func153 Tryz.ntmps153 Tryz.results153 ?_
  exact wk0
  all_goals exact dg
 |some i=>
  rw[hf]at hix
  have hi:i < v.subs.length:=(List.findIdx?_eq_some_iff_getElem.1 hf).1
  obtain⟨s,hs⟩:∃s,v.subs[i]? =some s:=⟨_,List.getElem?_eq_getElem hi⟩
  have hi0:decide ((i:Int) < 0)=false:=by simp
  have hfx:=idxf_Face encF_len (fun f=>f.id==id) s.faces 218 [.ept [.v (.int .i64 id)]] (by have:=h8 s (List.mem_of_getElem? hs);omega) (fun f _=>vfind2_p f id)
  unfold faceIx
  simp only
  rw[hs]
  replace hf:=Lib.hid hf
  refine pj Tryz.func153 Tryz.ntmps153 Tryz.results153 ?_
  exact wk0
  all_goals exact dg
def unsubV (v:Vpc)(id:Int):Vpc × Int:=
 if chkV v≠0 then (Vpc.zero,chkV v)else
 match v.subs.findIdx? (fun s=>s.id==id)with
 |none=>(Vpc.zero,5)
 |some i=>if (v.subs[i]?.map fun s=>s.faces.length)≠some 0 then (Vpc.zero,9)else ({v with subs:=v.subs.eraseIdx i},0)
theorem find_zero (sub id:Int):PSpec Tryz.prog 153 [.ept [.v (.int .i64 0),.v (.slice none 0 0),.v (.slice none 0 0)],.v (.int .i64 sub),.v (.int .i64 id)] (.tup [.v (.int .i64 (-1)),.v (.int .i64 (-1))]):=by
 have hix:=(idxf_Sub encN_len (fun s=>s.id==sub) [] 216 [.ept [.v (.int .i64 sub)]] (by simp) (fun s _=>vfind1_p s sub)).args (ds:=[.v (.slice none 0 0),.clo 216 [.ept [.v (.int .i64 sub)]]]) ⟨DLe.nil _,DLe.refl _,trivial⟩
 unfold idxI at hix
 simp only[List.findIdx?_nil]at hix
 refine pj Tryz.func153 Tryz.ntmps153 Tryz.results153 ?_
 exact wk0
theorem unsub_p (v:Vpc)(id:Int):PSpec Tryz.prog 71 [.agg (encV v),.v (.int .i64 id)] (.tup [.agg (encV (unsubV v id).1),.v (.int .i64 (unsubV v id).2)]):=by
 obtain⟨R,hR⟩:∃R,R=unsubV v id:=⟨_,rfl⟩
 rw[←hR]
 replace hR:=Lib.hid hR
 by_cases hc:chkV v=0
 ·have hk:=vpcOK_of hc
  have hbg:=beginD_m v hc hk.n4 hk.n6 hk.n8
  have hfd:=vfind_p v id 0 hk.n6 (fun s hs=>(hk.n8 s hs).1)
  have hn6:=hk.n6
  unfold findV at hfd
  cases hf:v.subs.findIdx? (fun s=>s.id==id)with
  |none=>
   rw[hf]at hfd
   have hr:R=(Vpc.zero,5):=by rw[hR.out];unfold unsubV;rw[if_neg (by simpa using hc),hf]
   rw[hr]
   clear hr hR hf hc hk
   refine pj Tryz.func71 Tryz.ntmps71 Tryz.results71 ?_
   have z1z:=Ln.mk (ls:=[]) (hbg)
   refine wk1 ?_<;>intros
   exact dg
  |some i=>
   rw[hf]at hfd
   have hi:i < v.subs.length:=(List.findIdx?_eq_some_iff_getElem.1 hf).1
   obtain⟨s,hs⟩:∃s,v.subs[i]? =some s:=⟨_,List.getElem?_eq_getElem hi⟩
   have hi0:decide ((i:Int) < 0)=false:=by simp
   simp only at hfd
   generalize faceIx v i 0=FI at hfd
   by_cases h0:s.faces.length=0
   ·have hr:R=({v with subs:=v.subs.eraseIdx i},0):=by rw[hR.out];unfold unsubV;rw[if_neg (by simpa using hc),hf];simp only;rw[hs];simp[h0]
    have hd:=delete_Sub (enc:=encN) v.subs i (i+1) v.subs.length hi rfl
    have hwr:=wi i (by omega)
    have h0b:decide ((s.faces.length:Int)>0)=false:=by simp[h0]
    rw[hr]
    clear hr hR hf hc hk h0
    refine pj Tryz.func71 Tryz.ntmps71 Tryz.results71 ?_
    have z1z:=Ln.mk (ls:=[]) (hbg)
    have z2z:=Ln.mk (ls:=[5]) (hd)
    exact wk0
    all_goals exact dg
   ·have hr:R=(Vpc.zero,9):=by rw[hR.out];unfold unsubV;rw[if_neg (by simpa using hc),hf];simp only;rw[hs];simp[h0]
    have h0b:decide ((s.faces.length:Int)>0)=true:=by simp;omega
    rw[hr]
    clear hr hR hf hc hk h0
    refine pj Tryz.func71 Tryz.ntmps71 Tryz.results71 ?_
    have z1z:=Ln.mk (ls:=[]) (hbg)
    refine wk1 ?_<;>intros
    all_goals exact dg
 ·have hbg:=beginE_m v hc
  have hfz:=find_zero id 0
  have h1:(chkV v !=0)=true:=by simpa using hc
  have hr:R=(Vpc.zero,chkV v):=by rw[hR.out];unfold unsubV;rw[if_pos hc]
  rw[hr]
  replace hr:=Lib.hid hr
  refine pj Tryz.func71 Tryz.ntmps71 Tryz.results71 ?_
  have z1z:=Ln.mk (ls:=[]) (hbg)
  refine wk1 ?_<;>intros
  exact dg
def leastF (used:List Int)(p:Pfx):Nat→Int→Option Int
 |0,_=>none
 |n+1,a=>if innB p a=true then (if a∈used then leastF used p n (a+1)else some a)else none
def leastS (s:Sbn):Option Int:=leastF (s.faces.flatMap (·.addrs)) s.at_ 65536 (s.at_.at_+1)
theorem innB_lt {p:Pfx}{a:Int}(h:innB p a=true):p.right=true∧p.at_ < a∧a < p.hi - 1∧a≤65535:=by
 unfold innB at h
 simp only[Bool.and_eq_true,decide_eq_true_eq]at h
 have hr:=holdB_iff.1 (by rw[←holdP_eq];exact h.1)
 have hb:=p.hi_bd hr.1
 have:p.hi=p.at_+szI p.len:=rfl
 exact⟨hr.1,by omega,by omega,by omega⟩
theorem least_p (s:Sbn)(h8:s.faces.length≤8)(h4:∀f∈s.faces,f.addrs.length≤4)(hr:s.at_.right=true)(hnd:(s.faces.flatMap (·.addrs)).Nodup):PSpec Tryz.prog 155 [.agg (encN s)] (.tup [.v (.int .i64 ((leastS s).getD 0)),.v (.bool (leastS s).isSome)]):=by
 obtain⟨r1,r2,r3,r4,-⟩:=s.at_.bd hr
 replace hnd:=Lib.hid hnd
 refine pj Tryz.func155 Tryz.ntmps155 Tryz.results155 ?_
 refine wk1 ?_<;>intros
 refine loopG tab_ok mixed (fun m e h=>∃(k:Nat) (ents:List (List Int × Int)),k≤s.faces.length∧Cnt ents ((s.faces.take k).flatMap (·.addrs))∧m=s.faces.length - k∧
  e=[(14,.d (.v (.int .i64 k))),(13,.d (.v (.int .i64 s.faces.length))),(12,.d (.sl 2 (s.faces.map encF))),(4,.mref 1),(3,.d (.v (.bool false))),(2,.d (.v (.int .i64 0))),(1,.ptr 0 0)]∧h=[.box 71 ((encN s).map .d),.mp 1 false ents]) _ _ _ ⟨0,[],Nat.zero_le _,cnt_nil,rfl,rfl,rfl⟩ (weak_forget _ (by simp) (by(try simp only[encN]);rfl) se bl bl) ?_
 rintro m e h ⟨k,ents,hk,hcnt,hm,rfl,rfl⟩ C hC
 by_cases hlt:k < s.faces.length
 ·have hkI:(k:Int) < (s.faces.length:Int):=by omega
  have hwr:=wi k (by omega)
  obtain⟨f,hf⟩:∃f,s.faces[k]? =some f:=⟨_,List.getElem?_eq_getElem hlt⟩
  have hfl:=h4 f (List.mem_of_getElem? hf)
  replace hm:=Lib.hid hm
  replace hcnt:=Lib.hid hcnt
  refine wk1 ?_<;>intros
  refine loopG tab_ok mixed (fun m e h=>∃(j:Nat) (ents:List (List Int × Int)),j≤f.addrs.length∧Cnt ents ((s.faces.take k).flatMap (·.addrs)++f.addrs.take j)∧m=f.addrs.length - j∧
   e=[(21,.d (.v (.int .i64 j))),(20,.d (.v (.int .i64 f.addrs.length))),(19,.d (.sl 1 (f.addrs.map encA))),(14,.d (.v (.int .i64 k))),(13,.d (.v (.int .i64 s.faces.length))),(12,.d (.sl 2 (s.faces.map encF))),(4,.mref 1),(3,.d (.v (.bool false))),(2,.d (.v (.int .i64 0))),(1,.ptr 0 0)]∧h=[.box 71 ((encN s).map .d),.mp 1 false ents]) _ _ _ ⟨0,ents,Nat.zero_le _,by simpa using hcnt.out,rfl,rfl,rfl⟩ (weak_forget _ (by simp) (by(try simp only[encN]);rfl) se bl bl) ?_
  rintro m2 e h ⟨j,en2,hj,hcnt2,hm2,rfl,rfl⟩ C2 hC2
  by_cases hlj:j < f.addrs.length
  ·have hjI:(j:Int) < (f.addrs.length:Int):=by omega
   have hwj:=wi j (by omega)
   obtain⟨a,ha⟩:∃a,f.addrs[j]? =some a:=⟨_,List.getElem?_eq_getElem hlj⟩
   have hca:=hcnt2 a
   have htk:f.addrs.take (j+1)=f.addrs.take j++[a]:=take_snoc ha
   have hd:a∉(s.faces.take k).flatMap (·.addrs)++f.addrs.take j:=by
    have hsub:((s.faces.take k).flatMap (·.addrs)++f.addrs.take (j+1)).Sublist (s.faces.flatMap (·.addrs)):=by
     conv=>rhs;rw[←List.take_append_drop k s.faces,drop_get hf,List.flatMap_append,List.flatMap_cons]
     exact List.Sublist.append (List.Sublist.refl _) ((List.take_sublist _ _).trans (List.sublist_append_left _ _))
    have:=hsub.nodup hnd.out
    rw[htk,←List.append_assoc,nodup_snoc]at this
    exact this.2
   rw[if_neg hd]at hca
   have hcs:=cnt_snoc hcnt2 hd
   replace hcnt2:=Lib.hid hcnt2
   replace hcs:=Lib.hid hcs
   replace hm2:=Lib.hid hm2
   replace htk:=Lib.hid htk
   have hw2:IntKind.i64.wrap 1=1:=by decide
   refine wk1 ?_<;>intros
   refine hC2 _ _ _ _ _ ?_ ⟨j+1,upE en2 [a] 1,hlj,?_,rfl,rfl,rfl⟩ (weak_forget _ (by simp) (by(try simp only[encN]);rfl) se bl bl)
   ·have:=hm2.out;omega
   ·rw[htk.out,←List.append_assoc];exact hcs.out
  ·obtain rfl:j=f.addrs.length:=by omega
   rw[List.take_length]at hcnt2
   have hfl2:(s.faces.take (k+1)).flatMap (·.addrs)=(s.faces.take k).flatMap (·.addrs)++f.addrs:=by rw[take_snoc hf,List.flatMap_append];simp
   replace hm2:=Lib.hid hm2
   replace hcnt2:=Lib.hid hcnt2
   replace hfl2:=Lib.hid hfl2
   refine wk1 ?_<;>intros
   refine hC _ _ _ _ _ ?_ ⟨k+1,en2,hlt,?_,rfl,rfl,rfl⟩ (weak_forget _ (by simp) (by(try simp only[encN]);rfl) se bl bl)
   ·have:=hm.out;omega
   ·rw[hfl2.out];exact hcnt2.out
 ·obtain rfl:k=s.faces.length:=by omega
  rw[List.take_length]at hcnt
  replace hcnt:=Lib.hid hcnt
  replace hm:=Lib.hid hm
  have hw1:IntKind.i64.wrap (s.at_.at_+1)=s.at_.at_+1:=by rw[IntKind.wrap_i64];omega
  refine wk1 ?_<;>intros
  refine loopG tab_ok mixed (fun m e h=>∃(i:Nat) (a:Int),i≤65536∧a=s.at_.at_+1+i∧leastS s=leastF (s.faces.flatMap (·.addrs)) s.at_ (65536 - i) a∧m=65536 - i∧
   e=[(9,.d (.v (.int .i64 a))),(4,.mref 1),(3,.d (.v (.bool false))),(2,.d (.v (.int .i64 0))),(1,.ptr 0 0)]∧h=[.box 71 ((encN s).map .d),.mp 1 false ents]) 65536 _ _ ⟨0,s.at_.at_+1,Nat.zero_le _,by simp,rfl,rfl,rfl,rfl⟩ (weak_forget _ (by simp) (by(try simp only[encN]);rfl) se bl bl) ?_
  rintro m2 e h ⟨i,a,hi,haa,hle,hm2,rfl,rfl⟩ C2 hC2
  have hin:=inner_p s.at_ a
  cases b1:innB s.at_ a with
  |false=>
   rw[b1]at hin
   have hr2:leastS s=none:=by
    rw[hle]
    cases 65536 - i with
    |zero=>rfl
    |succ n=>rw[leastF,if_neg (by simp[b1])]
   replace hle:=Lib.hid hle
   replace haa:=Lib.hid haa
   replace hm2:=Lib.hid hm2
   rw[hr2]
   exact wk0
   all_goals exact dg
  |true=>
   have hb:=innB_lt b1
   obtain⟨n,hn⟩:∃n,65536 - i=n+1:=⟨65536 - i - 1,by omega⟩
   rw[hn,leastF,if_pos b1]at hle
   rw[b1]at hin
   have hca:=hcnt.out a
   have hwa:IntKind.i64.wrap (a+1)=a+1:=by rw[IntKind.wrap_i64];omega
   replace haa:=Lib.hid haa
   replace hm2:=Lib.hid hm2
   by_cases hu:a∈s.faces.flatMap (·.addrs)
   ·rw[if_pos hu]at hca hle
    replace hle:=Lib.hid hle
    refine wk1 ?_<;>intros
    refine hC2 _ _ _ _ _ ?_ ⟨i+1,a+1,by omega,by rw[haa.out];omega,?_,rfl,rfl,rfl⟩ (weak_forget _ (by simp) (by(try simp only[encN]);rfl) se bl bl)
    ·have:=hm2.out;omega
    ·rw[hle.out]
     congr 1
     omega
   ·rw[if_neg hu]at hca hle
    rw[hle]
    replace hle:=Lib.hid hle
    exact wk0
    all_goals exact dg
theorem sub_right {v:Vpc}(hk:VpcOK v){s:Sbn}(hs:s∈v.subs):s.at_.right=true∧(s.faces.flatMap (·.addrs)).Nodup∧(s.faces.Pairwise fun a b=>a.id < b.id)∧∀f∈s.faces,faceB s.at_ f=true:=by
 have h:=hk.subs s hs
 unfold subB holdsV facesB at h
 simp only[Bool.and_eq_true,List.any_eq_true,List.all_eq_true,decide_eq_true_eq,risB_pair]at h
 obtain⟨-,⟨r,-,hr⟩,h1,h2,h3⟩:=h
 exact⟨(insQ_iff.1 hr).1,h2,h3,h1⟩
theorem find_split {α:Type}{p:α→Bool}{l:List α}{i:Nat}(h:l.findIdx? p=some i):∃pre x post,l=pre++x::post∧pre.length=i∧p x=true∧l[i]? =some x:=by
 obtain⟨hlt,hp,-⟩:=List.findIdx?_eq_some_iff_getElem.1 h
 exact⟨l.take i,l[i],l.drop (i+1),by rw[List.getElem_cons_drop,List.take_append_drop],by rw[List.length_take];omega,hp,List.getElem?_eq_getElem hlt⟩
def faceErr (s:Sbn)(id:Int):Int:=
 if idOK id=false then 3 else if (s.faces.any fun f=>f.id==id)=true then 6 else if s.faces.length=8 then 2 else if (leastS s).isSome=false then 8 else 0
def faceV (v:Vpc)(sub id:Int):Vpc × Int × Int:=
 if chkV v≠0 then (Vpc.zero,0,chkV v)else
 match v.subs.findIdx? (fun s=>s.id==sub)with
 |none=>(Vpc.zero,0,5)
 |some i=>match v.subs[i]? with
  |none=>(Vpc.zero,0,5)
  |some s=>if faceErr s id≠0 then (Vpc.zero,0,faceErr s id)else ({v with subs:=v.subs.set i {s with faces:=insK (·.id) ⟨id,[(leastS s).getD 0]⟩ s.faces}},(leastS s).getD 0,0)
theorem vface_p (v:Vpc)(sub id:Int):PSpec Tryz.prog 72 [.agg (encV v),.v (.int .i64 sub),.v (.int .i64 id)] (.tup [.agg (encV (faceV v sub id).1),.v (.int .i64 (faceV v sub id).2.1),.v (.int .i64 (faceV v sub id).2.2)]):=by
 obtain⟨R,hR⟩:∃R,R=faceV v sub id:=⟨_,rfl⟩
 rw[←hR]
 replace hR:=Lib.hid hR
 by_cases hc:chkV v=0
 ·have hk:=vpcOK_of hc
  have hfd:=vfind_p v sub id hk.n6 (fun s hs=>(hk.n8 s hs).1)
  unfold findV at hfd
  cases hf:v.subs.findIdx? (fun s=>s.id==sub)with
  |none=>
   have hbg:=beginD_m v hc hk.n4 hk.n6 hk.n8
   rw[hf]at hfd
   have hr:R=(Vpc.zero,0,5):=by rw[hR.out];unfold faceV;rw[if_neg (by simpa using hc),hf]
   rw[hr]
   clear hr hR hf hc hk
   refine pj Tryz.func72 Tryz.ntmps72 Tryz.results72 ?_
   have z1z:=Ln.mk (ls:=[]) (hbg)
   refine wk1 ?_<;>intros
   exact dg
  |some i=>
   obtain⟨pre,s,post,hv,hpl,-,hs⟩:=find_split hf
   have hsm:=List.mem_of_getElem? hs
   obtain⟨s1,s2,s3,s4⟩:=sub_right hk hsm
   have h8s:=hk.n8 s hsm
   have hbg:=beginF_m v pre post s hv hc hk.n4 hk.n6 hk.n8
   have hle:=least_p s h8s.1 h8s.2 s1 s2
   have hid:=vids_p id
   have hany:=idxI_any (fun f=>f.id==id) s.faces
   have hi0:decide ((i:Int) < 0)=false:=by simp
   have hR2:R=if faceErr s id≠0 then (Vpc.zero,0,faceErr s id)else ({v with subs:=pre++{s with faces:=insK (·.id) ⟨id,[(leastS s).getD 0]⟩ s.faces}::post},(leastS s).getD 0,0):=by
    rw[hR.out];unfold faceV;rw[if_neg (by simpa using hc),hf];simp only;rw[hs];simp only
    rw[hv,←hpl,List.set_append_right _ _ (Nat.le_refl _),Nat.sub_self,List.set_cons_zero]
   rw[hf]at hfd
   simp only at hfd
   unfold faceIx at hfd
   rw[hs]at hfd
   simp only[encV,hv,List.map_append,List.map_cons,encN]at hfd
   have hsl:v.subs.length=pre.length+1+post.length:=by rw[hv];simp;omega
   subst hpl
   simp only[encN]at hle
   by_cases hbad:faceErr s id≠0
   ·rw[if_pos hbad]at hR2
    unfold faceErr at hR2 hbad
    generalize idOK id=I at*
    generalize idxI (fun f=>f.id==id) s.faces=IX at*
    generalize (s.faces.any fun f=>f.id==id)=M at*
    generalize leastS s=LS at*
    have hl4:((s.faces.length:Int)==8)=decide (s.faces.length=8):=by rw[Bool.eq_iff_iff];simp;omega
    replace hR2:=Lib.hid hR2
    replace hbad:=Lib.hid hbad
    clear hR hc hk hf hs hsm hv
    refine pj Tryz.func72 Tryz.ntmps72 Tryz.results72 ?_
    repeat' (first|(with_reducible refine And.intro ?_ ?_)|(with_reducible refine gK_i (fun _=>?_) (fun _=>?_))|(with_reducible refine condS_i (fun _=>?_) (fun _=>?_))|(with_reducible refine drw_i (by kernel_rfl))|simp -dsimp only[go_sem,seval, *,encV,subRow,renR_zipG,zipG_get,zipG_len,viewR_zipG,hi0,hl4,hany]|((with_reducible refine opK_c ?_);simp -dsimp only[go_sem,seval,encV,subRow,renR_zipG,zipG_get,zipG_len,viewR_zipG,hi0,hl4,hany];first|refine callK_r (by first|assumption|exact hfd|exact hid|exact hle) (by first|exact .inl rfl|exact .inr rfl) ?_|(refine callK_i (by assumption) ?_ ?_ ?_;(solve|(repeat(first|exact DLe.refl _|exact DLe.nil _|(refine DLe.tup ?_)|(refine DLe.agg ?_ rfl)|exact trivial|(refine And.intro ?_ ?_))));(solve|exact .inl rfl|exact .inr rfl)))|(refine opK_M [] (hbg) ?_ ?_ ?_ ?_ ?_ ?_;(solve|rfl|simp only[go_sem,seval,encV,subRow,renR_zipG]);(solve|rfl);(solve|decide);(solve|simp);(solve|simp only[go_sem,seval,lentOK,encV,subRow,renR_zipG]))|omega|exact decide_eq_true (by omega)|exact DLe.refl _)
    all_goals
     have h1:=hR2.out
     have h2:=hbad.out
     clear hfd hid hle hbg
     first
      |(exfalso;grind)
      |(rw[show R=(Vpc.zero,0,3) from (by rw[h1];grind)];exact dg)
      |(rw[show R=(Vpc.zero,0,6) from (by rw[h1];grind)];exact dg)
      |(rw[show R=(Vpc.zero,0,2) from (by rw[h1];grind)];exact dg)
      |(rw[show R=(Vpc.zero,0,8) from (by rw[h1];grind)];exact dg)
   ·rw[if_neg hbad]at hR2
    have hg:faceErr s id=0:=by simpa using hbad
    obtain⟨g1,g2,g3,g4⟩:idOK id=true∧(s.faces.any fun f=>f.id==id)=false∧s.faces.length≠8∧(leastS s).isSome=true:=by
     unfold faceErr at hg
     generalize (s.faces.any fun f=>f.id==id)=M at*
     grind
    obtain⟨a,ha⟩:=Option.isSome_iff_exists.1 g4
    have hne:∀f∈s.faces,f.id≠(⟨id,[a]⟩:Fce).id:=fun f hf=>by have:=List.any_eq_false.1 g2 f hf;simpa using this
    have hso:=sort_Face (l:=s.faces++[⟨id,[a]⟩]) (l':=insK (·.id) ⟨id,[a]⟩ s.faces) (s.faces.length+1) (by simp) (insK_perm _ _ _) (insK_sorted s3 hne) (by simp;omega)
    rw[ha]at hle hR2
    rw[g1]at hid
    rw[g2]at hany
    simp only[Option.getD_some,Option.isSome_some]at hle hR2
    have hl4:((s.faces.length:Int)==8)=false:=by simp;omega
    have hb1:s.faces.length+1≤100:=by omega
    simp only[List.map_append,List.map_cons,List.map_nil]at hso
    rw[hR2]
    clear hR hR2 hc hk hne hg hbad hf hs hsm hv g4 ha
    refine pj Tryz.func72 Tryz.ntmps72 Tryz.results72 ?_
    have z1z:=@subRow.eq_1
    have z2z:=Ln.mk (ls:=[]) (hbg)
    have z3z:=Ln.mk (ls:=[8]) (hso)
    refine wk1 ?_<;>intros
    all_goals(simp only[encV,encN,List.map_append,List.map_cons];exact dg)
 ·have hbg:=beginE_m v hc
  have h1:(chkV v !=0)=true:=by simpa using hc
  have hr:R=(Vpc.zero,0,chkV v):=by rw[hR.out];unfold faceV;rw[if_pos hc]
  rw[hr]
  replace hr:=Lib.hid hr
  refine pj Tryz.func72 Tryz.ntmps72 Tryz.results72 ?_
  have z1z:=Ln.mk (ls:=[]) (hbg)
  refine wk1 ?_<;>intros
  exact dg
section
open Go.Proofs Go.Shelf
theorem putCells_ints (F:Array Int)(cur:Array Value)(h:F.size≤cur.size):(Sort.putCells (Value.int .i64) 0 F cur).toList.take F.size=F.toList.map (Value.int .i64)∧(Sort.putCells (Value.int .i64) 0 F cur).size=cur.size:=by
 refine⟨?_,by simp[Sort.putCells]⟩
 apply List.ext_getElem?
 intro i
 by_cases hi:i < F.size
 ·rw[List.getElem?_take_of_lt hi]
  have hc:i < cur.size:=by omega
  simp[Sort.putCells,hi,hc]
 ·rw[List.getElem?_eq_none (by rw[List.length_take];omega),List.getElem?_eq_none (by simp;omega)]
theorem merge_is {l l':List Int}(hp:l'.Perm l)(hs:l'.Pairwise fun x y=>x < y):(l.mergeSort fun x y=>decide (x≤y))=l':=by
 refine List.Perm.eq_of_pairwise (le:=fun x y:Int=>x≤y) (fun a b _ _ h1 h2=>by omega) ?_ (hs.imp fun h=>by omega) ((List.mergeSort_perm l _).trans hp.symm)
 have:=List.pairwise_mergeSort (le:=fun x y:Int=>decide (x≤y)) (fun a b c h1 h2=>by simp at*;omega) (fun a b=>by simp;omega) l
 exact this.imp fun h=>by simpa using h
theorem sort_ints {P:Program}{ρ:Ren}(L:SlLaysN.n53 P ρ){f E g:Nat}(hf:ρ.f 53=f)(hfn:FnOK P f){l l':List Int}(hl0:l≠[])(hp:l'.Perm l)(hs:l'.Pairwise fun x y=>x < y)(hsz:l.length≤1000000):
 MSpec P f [.own 0 g] [.row E 1 g (dRows (l.map encA))] (.d (.tup [])) [.row E 1 g (dRows (l'.map encA))]:=by
 refine⟨hfn,Nat.le_refl _,by simp[belowL,belowP],by simp[belowH,belowC,belowR_d],fun X hP hn hm w c vs hr hps=>?_⟩
 have hlen:=hps.1
 match vs,hlen with
 |[v0],_=>
  have r0:=hps.2 0 _ v0 rfl rfl
  have hne:dRows (l.map encA)≠[]:=by simpa[dRows]using hl0
  have hck:=hr.chunk 0
  have hfl:∀m:List Int,(dRows (m.map encA)).flatten=m.map fun a=>PV.d (.v (.int .i64 a)):=by
   intro m
   rw[dRows_flatten]
   induction m with
   |nil=>rfl
   |cons a m ih=>simp[encA,ih]
  cases r0 with
  |own _ _ _ hov h1=>
   obtain⟨gb,cap,rfl⟩:=own_some hck hov hne
   obtain⟨cur,xs,q1,q2,q3,q4,q5,q6,q7,q8,q9,q10,q11⟩:=row_cells hck hov hne
   have hln:(dRows (l.map encA)).length=l.length:=by rw[dRows_len,List.length_map]
   rw[hln]at q3 q4 q8 q10 hov ⊢
   rw[Nat.mul_one]at q3 q4 q8 q11
   rw[hfl]at q2
   have hxs:xs=l.map (Value.int .i64):=by
    apply List.ext_getElem?
    intro j
    by_cases hj:j < l.length
    ·obtain⟨u,e1⟩:∃u,xs[j]? =some u:=⟨_,List.getElem?_eq_getElem (by omega)⟩
     have:=q2.2 j (.d (.v (.int .i64 l[j]))) u (by rw[List.getElem?_map,List.getElem?_eq_getElem hj];rfl) e1
     rw[e1,List.getElem?_map,List.getElem?_eq_getElem hj]
     cases repD_inv this
     rfl
    ·rw[List.getElem?_eq_none (by omega),List.getElem?_eq_none (by simp;omega)]
   have hH:Sort.Holds (Value.int .i64) w gb 0 l.toArray:=by
    intro j hj
    have hj':j < l.length:=by simpa using hj
    have hcell:∀o,w.cell? ⟨gb,o,none⟩=cur[o]? :=fun o=>by simp[World.cell?,q1]
    refine⟨?_,free_of_block q1⟩
    rw[Nat.zero_add,hcell,q4 j hj',hxs,List.getElem?_map,List.getElem?_eq_getElem hj',getElem!_pos l.toArray j hj]
    simp
   have hg:gb < w.heap.size:=(Array.getElem?_eq_some_iff.1 q1).1
   have hcall:=AnyG.slices_Sort_int L gb 0 cap l w hH hg (by omega)
   rw[hf,merge_is hp hs]at hcall
   refine hcall.mono fun e w' ⟨he,m,os,hw'⟩=>?_
   have hll':l'.length=l.length:=hp.length_eq
   obtain⟨p1,p2⟩:=putCells_ints l'.toArray cur (by simp;omega)
   have hcap:0 < cap:=by have:=List.length_pos_iff.2 hl0;omega
   have hhb:w'.heap[gb]? =some (.cells (Sort.putCells (Value.int .i64) 0 l'.toArray cur) E (0,0)):=by
    rw[hw',Sort.heap_grow_old _ _ (by simpa using hg)]
    show (w.heap.modify gb (Sort.onCells _))[gb]? =_
    rw[Array.getElem?_modify,if_pos rfl,q1]
    rfl
   have hone:OneB w w' (some gb):=by
    refine⟨by rw[hw'];rfl,by rw[hw'];rfl,by rw[hw'];rfl,?_,fun b hb hne=>?_⟩
    ·rw[hw',Sort.size_grow,Sort.size_putRow,Sort.heap_ahead];omega
    ·rw[hw',Sort.heap_grow_old _ _ (by simpa using hb)]
     show (w.heap.modify gb (Sort.onCells _))[b]? =_
     rw[Array.getElem?_modify,if_neg (fun e=>hne (by rw[e]))]
   have hin2:∀r∈dRows (l'.map encA),r.length=1:=fun r hr=>by
    obtain⟨q,hq,rfl⟩:=dRows_mem hr
    obtain⟨x,-,rfl⟩:=List.mem_map.1 hq
    rfl
   have hrep':RepPs c w (dRows (l'.map encA)).flatten (l'.map (Value.int .i64)):=by
    rw[hfl]
    refine⟨by simp,fun j d v hj hv=>?_⟩
    rw[List.getElem?_map,Option.map_eq_some_iff]at hj hv
    obtain⟨a,ha,rfl⟩:=hj
    obtain⟨b,hb,rfl⟩:=hv
    rw[ha]at hb
    cases hb
    exact .d _ _ (.v _)
   have hput:=hr.put_row (w':=w') (k:=0) (rows':=dRows (l'.map encA)) (xs':=l'.map (Value.int .i64)) rfl hov (by rw[ownB_pos hcap];exact hone) (by
    rw[dRows_len,List.length_map,hll']
    exact .row gb l.length cap _ _ hcap hhb q10 q9 (by rw[p2,Nat.mul_one];exact q11) (by rw[List.length_map,Nat.mul_one];omega) (by
     rw[Nat.mul_one,←hll',show l'.length=l'.toArray.size by simp,p1])) hrep' hin2 (dRows_one2 (enc:=encA) (fun _=>rfl) l')
   have hfun:effH [(0,Chunk.row E 1 g (dRows (l'.map encA)))] (mkF [] [.row E 1 g (dRows (l.map encA))]).heap=hatL [.row E 1 g (dRows (l'.map encA))]:=by
    funext k
    rw[effH1]
    cases k with
    |zero=>rfl
    |succ k=>rfl
   rw[hfun]at hput
   refine⟨_,c,he,.d _ _ (.tup [] [] rfl fun j d x h=>by simp at h),hput⟩
theorem sort_int {l l':List Int}(g:Nat)(hl0:l≠[])(hp:l'.Perm l)(hs:l'.Pairwise fun x y=>x < y)(hsz:l.length≤1000000):MSpec Tryz.prog 158 [.own 0 g] [.row 3 1 g (dRows (l.map encA))] (.d (.tup [])) [.row 3 1 g (dRows (l'.map encA))]:=
 sort_ints Tryz.sortInt rfl (fnok_of Tryz.func158 (by kernel_rfl) rfl) hl0 hp hs hsz
end
def unfaceV (v:Vpc)(sub id:Int):Vpc × Int:=
 if chkV v≠0 then (Vpc.zero,chkV v)else
 match v.subs.findIdx? (fun s=>s.id==sub)with
 |none=>(Vpc.zero,5)
 |some i=>match v.subs[i]? with
  |none=>(Vpc.zero,5)
  |some s=>match s.faces.findIdx? (fun f=>f.id==id)with
   |none=>(Vpc.zero,5)
   |some k=>({v with subs:=v.subs.set i {s with faces:=s.faces.eraseIdx k}},0)
theorem unface_p (v:Vpc)(sub id:Int):PSpec Tryz.prog 74 [.agg (encV v),.v (.int .i64 sub),.v (.int .i64 id)] (.tup [.agg (encV (unfaceV v sub id).1),.v (.int .i64 (unfaceV v sub id).2)]):=by
 obtain⟨R,hR⟩:∃R,R=unfaceV v sub id:=⟨_,rfl⟩
 rw[←hR]
 replace hR:=Lib.hid hR
 by_cases hc:chkV v=0
 ·have hk:=vpcOK_of hc
  have hfd:=vfind_p v sub id hk.n6 (fun s hs=>(hk.n8 s hs).1)
  have hm1:decide ((-1:Int) < 0)=true:=rfl
  unfold findV at hfd
  cases hf:v.subs.findIdx? (fun s=>s.id==sub)with
  |none=>
   have hbg:=beginD_m v hc hk.n4 hk.n6 hk.n8
   rw[hf]at hfd
   have hr:R=(Vpc.zero,5):=by rw[hR.out];unfold unfaceV;rw[if_neg (by simpa using hc),hf]
   rw[hr]
   clear hr hR hf hc hk
   refine pj Tryz.func74 Tryz.ntmps74 Tryz.results74 ?_
   have z1z:=Ln.mk (ls:=[]) (hbg)
   refine wk1 ?_<;>intros
   exact dg
  |some i=>
   obtain⟨pre,s,post,hv,hpl,-,hs⟩:=find_split hf
   have hsm:=List.mem_of_getElem? hs
   have h8s:=hk.n8 s hsm
   have hbg:=beginF_m v pre post s hv hc hk.n4 hk.n6 hk.n8
   rw[hf]at hfd
   simp only at hfd
   unfold faceIx at hfd
   rw[hs]at hfd
   simp only[encV,hv,List.map_append,List.map_cons,encN]at hfd
   unfold idxI at hfd
   have hsl:v.subs.length=pre.length+1+post.length:=by rw[hv];simp;omega
   cases hg:s.faces.findIdx? (fun f=>f.id==id)with
   |none=>
    rw[hg]at hfd
    have hr:R=(Vpc.zero,5):=by rw[hR.out];unfold unfaceV;rw[if_neg (by simpa using hc),hf];simp only;rw[hs];simp only;rw[hg]
    rw[hr]
    subst hpl
    clear hr hR hc hk hf hs hsm hv hg
    refine pj Tryz.func74 Tryz.ntmps74 Tryz.results74 ?_
    have z1z:=@subRow.eq_1
    have z2z:=Ln.mk (ls:=[]) (hbg)
    refine wk1 ?_<;>intros
    exact dg
   |some k=>
    rw[hg]at hfd
    have hkl:k < s.faces.length:=(List.findIdx?_eq_some_iff_getElem.1 hg).1
    have hr:R=({v with subs:=pre++{s with faces:=s.faces.eraseIdx k}::post},0):=by
     rw[hR.out];unfold unfaceV;rw[if_neg (by simpa using hc),hf];simp only;rw[hs];simp only;rw[hg];simp only
     rw[hv,←hpl,List.set_append_right _ _ (Nat.le_refl _),Nat.sub_self,List.set_cons_zero]
    have hd:=delete_Face (enc:=encF) s.faces k (k+1) s.faces.length hkl rfl
    have hwr:=wi k (by omega)
    have hk0:decide ((k:Int) < 0)=false:=by simp
    rw[hr]
    subst hpl
    clear hr hR hc hk hf hs hsm hv hg
    refine pj Tryz.func74 Tryz.ntmps74 Tryz.results74 ?_
    have z1z:=@subRow.eq_1
    have z2z:=Ln.mk (ls:=[]) (hbg)
    have z3z:=Ln.mk (ls:=[8]) (hd)
    refine wk1 ?_<;>intros
    all_goals(first|omega|(simp only[encV,encN,List.map_append,List.map_cons];exact dg))
 ·have hbg:=beginE_m v hc
  have hfz:=find_zero sub id
  have h1:(chkV v !=0)=true:=by simpa using hc
  have hr:R=(Vpc.zero,chkV v):=by rw[hR.out];unfold unfaceV;rw[if_pos hc]
  rw[hr]
  replace hr:=Lib.hid hr
  refine pj Tryz.func74 Tryz.ntmps74 Tryz.results74 ?_
  have z1z:=Ln.mk (ls:=[]) (hbg)
  refine wk1 ?_<;>intros
  exact dg
theorem leastF_not {used:List Int}{p:Pfx}:∀{n:Nat}{x a:Int},leastF used p n x=some a→a∉used∧innB p a=true
 |0,x,a,h=>by cases h
 |n+1,x,a,h=>by
  unfold leastF at h
  split at h
  ·rename_i hi
   split at h
   ·exact leastF_not h
   ·rename_i hu
    cases h
    exact⟨hu,hi⟩
  ·cases h
def moreV (v:Vpc)(sub id:Int):Vpc × Int × Int:=
 if chkV v≠0 then (Vpc.zero,0,chkV v)else
 match v.subs.findIdx? (fun s=>s.id==sub)with
 |none=>(Vpc.zero,0,5)
 |some i=>match v.subs[i]? with
  |none=>(Vpc.zero,0,5)
  |some s=>match s.faces.findIdx? (fun f=>f.id==id)with
   |none=>(Vpc.zero,0,5)
   |some k=>match s.faces[k]? with
    |none=>(Vpc.zero,0,5)
    |some f=>if f.addrs.length=4 then (Vpc.zero,0,2)else match leastS s with
     |none=>(Vpc.zero,0,8)
     |some a=>({v with subs:=v.subs.set i {s with faces:=s.faces.set k {f with addrs:=insK (fun x=>x) a f.addrs}}},a,0)
theorem more_p (v:Vpc)(sub id:Int):PSpec Tryz.prog 73 [.agg (encV v),.v (.int .i64 sub),.v (.int .i64 id)] (.tup [.agg (encV (moreV v sub id).1),.v (.int .i64 (moreV v sub id).2.1),.v (.int .i64 (moreV v sub id).2.2)]):=by
 obtain⟨R,hR⟩:∃R,R=moreV v sub id:=⟨_,rfl⟩
 rw[←hR]
 replace hR:=Lib.hid hR
 by_cases hc:chkV v=0
 ·have hk:=vpcOK_of hc
  have hfd:=vfind_p v sub id hk.n6 (fun s hs=>(hk.n8 s hs).1)
  have hm1:decide ((-1:Int) < 0)=true:=rfl
  unfold findV at hfd
  cases hf:v.subs.findIdx? (fun s=>s.id==sub)with
  |none=>
   have hbg:=beginD_m v hc hk.n4 hk.n6 hk.n8
   rw[hf]at hfd
   have hr:R=(Vpc.zero,0,5):=by rw[hR.out];unfold moreV;rw[if_neg (by simpa using hc),hf]
   rw[hr]
   clear hr hR hf hc hk
   refine pj Tryz.func73 Tryz.ntmps73 Tryz.results73 ?_
   have z1z:=Ln.mk (ls:=[]) (hbg)
   refine wk1 ?_<;>intros
   exact dg
  |some i=>
   obtain⟨pre,s,post,hv,hpl,-,hs⟩:=find_split hf
   have hsm:=List.mem_of_getElem? hs
   obtain⟨s1,s2,s3,s4⟩:=sub_right hk hsm
   have h8s:=hk.n8 s hsm
   rw[hf]at hfd
   simp only at hfd
   unfold faceIx at hfd
   rw[hs]at hfd
   have hsl:v.subs.length=pre.length+1+post.length:=by rw[hv];simp;omega
   cases hg:s.faces.findIdx? (fun f=>f.id==id)with
   |none=>
    have hbg:=beginF_m v pre post s hv hc hk.n4 hk.n6 hk.n8
    simp only[encV,hv,List.map_append,List.map_cons,encN]at hfd
    unfold idxI at hfd
    rw[hg]at hfd
    have hr:R=(Vpc.zero,0,5):=by rw[hR.out];unfold moreV;rw[if_neg (by simpa using hc),hf];simp only;rw[hs];simp only;rw[hg]
    rw[hr]
    subst hpl
    clear hr hR hc hk hf hs hsm hv hg
    refine pj Tryz.func73 Tryz.ntmps73 Tryz.results73 ?_
    have z1z:=@subRow.eq_1
    have z2z:=Ln.mk (ls:=[]) (hbg)
    refine wk1 ?_<;>intros
    exact dg
   |some k=>
    obtain⟨preF,f,postF,hfv,hplF,-,hfs⟩:=find_split hg
    have hfm:=List.mem_of_getElem? hfs
    have hbg:=beginA_m v pre post s preF postF f hv hfv hc hk.n4 hk.n6 hk.n8
    have hle:=least_p s h8s.1 h8s.2 s1 s2
    have hfl:=h8s.2 f hfm
    simp only[encN,hfv,List.map_append,List.map_cons,encF]at hle
    simp only[encV,hv,List.map_append,List.map_cons,encN]at hfd
    unfold idxI at hfd
    rw[hg]at hfd
    simp only[hfv,List.map_append,List.map_cons,encF]at hfd
    have hfsl:s.faces.length=preF.length+1+postF.length:=by rw[hfv];simp;omega
    have hk0:decide ((k:Int) < 0)=false:=by simp
    have hR2:R=if f.addrs.length=4 then ((Vpc.zero,0,2):Vpc × Int × Int)else match leastS s with
     |none=>(Vpc.zero,0,8)
     |some a=>({v with subs:=pre++{s with faces:=preF++{f with addrs:=insK (fun x=>x) a f.addrs}::postF}::post},a,0):=by
     rw[hR.out];unfold moreV;rw[if_neg (by simpa using hc),hf];simp only;rw[hs];simp only;rw[hg];simp only;rw[hfs];simp only
     split
     ·rfl
     ·cases leastS s with
      |none=>rfl
      |some a=>
       simp only
       rw[hv,←hpl,List.set_append_right _ _ (Nat.le_refl _),Nat.sub_self,List.set_cons_zero]
       rw[hfv,←hplF,List.set_append_right _ _ (Nat.le_refl _),Nat.sub_self,List.set_cons_zero]
    by_cases h4:f.addrs.length=4
    ·rw[if_pos h4]at hR2
     have h4b:((f.addrs.length:Int)==4)=true:=by simp;omega
     rw[hR2]
     subst hpl
     subst hplF
     clear hR hR2 hc hk hf hs hsm hv hg hfs hfm
     refine pj Tryz.func73 Tryz.ntmps73 Tryz.results73 ?_
     have z1z:=@subRow.eq_1
     have z2z:=@faceRow.eq_1
     have z3z:=Ln.mk (ls:=[]) (hbg)
     refine wk1 ?_<;>intros
     all_goals(first|omega|exact dg)
    ·rw[if_neg h4]at hR2
     have h4b:((f.addrs.length:Int)==4)=false:=by simp;omega
     cases hl:leastS s with
     |none=>
      rw[hl]at hR2 hle
      simp only[Option.getD_none,Option.isSome_none]at hle
      rw[hR2]
      subst hpl
      subst hplF
      clear hR hR2 hc hk hf hs hsm hv hg hfs hfm
      refine pj Tryz.func73 Tryz.ntmps73 Tryz.results73 ?_
      have z1z:=@subRow.eq_1
      have z2z:=@faceRow.eq_1
      have z3z:=Ln.mk (ls:=[]) (hbg)
      refine wk1 ?_<;>intros
      all_goals(first|omega|exact dg)
     |some a=>
      rw[hl]at hR2 hle
      simp only[Option.getD_some,Option.isSome_some]at hle
      have hna:a∉f.addrs:=fun h=>(leastF_not hl).1 (List.mem_flatMap.2 ⟨f,hfm,h⟩)
      have hsrt:f.addrs.Pairwise fun x y=>x < y:=by
       have:=s4 f hfm
       unfold faceB at this
       simp only[Bool.and_eq_true,risB_pair]at this
       exact this.2.2.1
      have hso:=sort_int (l:=f.addrs++[a]) (l':=insK (fun x=>x) a f.addrs) 2 (by simp) (insK_perm _ _ _) (insK_sorted hsrt (fun y hy e=>hna (e ▸ hy))) (by simp;omega)
      simp only[List.map_append,List.map_cons,List.map_nil]at hso
      have hb1:f.addrs.length+1≤100:=by omega
      rw[hR2]
      subst hpl
      subst hplF
      clear hR hR2 hc hk hf hs hsm hv hg hfs hfm hna hsrt hl
      refine pj Tryz.func73 Tryz.ntmps73 Tryz.results73 ?_
      have z1z:=@subRow.eq_1
      have z2z:=@faceRow.eq_1
      have z3z:=Ln.mk (ls:=[]) (hbg)
      have z4z:=Ln.mk (ls:=[10]) (hso)
      refine wk1 ?_<;>intros
      all_goals(first|omega|(simp only[encV,encN,encF,List.map_append,List.map_cons];exact dg))
 ·have hbg:=beginE_m v hc
  have hfz:=find_zero sub id
  have h1:(chkV v !=0)=true:=by simpa using hc
  have hr:R=(Vpc.zero,0,chkV v):=by rw[hR.out];unfold moreV;rw[if_pos hc]
  rw[hr]
  replace hr:=Lib.hid hr
  refine pj Tryz.func73 Tryz.ntmps73 Tryz.results73 ?_
  have z1z:=Ln.mk (ls:=[]) (hbg)
  refine wk1 ?_<;>intros
  exact dg
def wkD (b:Bok)(n:Net)(c:Cmd)(a:Ans):List D:=[.v (.int .i64 b.tick),.sl 9 (b.pools.map encPol),.sl 3 (n.vpcs.map encV),.sl 2 (n.links.map encK),.v (.int .i64 c.op),.v (.int .i64 c.a),.v (.int .i64 c.b),.v (.int .i64 c.c),.v (.int .i64 c.at_.at_),.v (.int .i64 c.at_.len),.v (.int .i64 c.rule.min),.v (.int .i64 c.rule.max),.v (.int .i64 c.rule.usual),.v (.int .i64 c.rule.cool),.v (.int .i64 a.err),.v (.int .i64 a.at_.at_),.v (.int .i64 a.at_.len),.v (.int .i64 a.n)]
theorem network1_p (b:Bok)(n:Net)(c:Cmd)(a:Ans)(v:Vpc):PSpec Tryz.prog 140 [.agg (encV v),.ept [.ept (wkD b n c a)]] (.v (.bool (v.id==c.a))):=by
 unfold wkD
 refine pj Tryz.func140 Tryz.ntmps140 Tryz.results140 ?_
 exact wk0
theorem network_m (b:Bok)(n:Net)(c:Cmd)(h6:n.vpcs.length≤1000000000)(k:Nat)(hk:idxI (fun v=>v.id==c.a) n.vpcs=k)(hlt:k < n.vpcs.length):
 MSpec Tryz.prog 67 [.ptr 0 0] [.box 86 (wkC b (.own 1 n.vpcs.length) (.d (.sl 2 (n.links.map encK))) c .zero),.row 55 3 n.vpcs.length (dRows (n.vpcs.map encV))] (.rp 1 n.vpcs.length 3 k 0)
  [.box 86 (wkC b (.own 1 n.vpcs.length) (.d (.sl 2 (n.links.map encK))) c .zero),.row 55 3 n.vpcs.length (dRows (n.vpcs.map encV))]:=by
 have hx:=idxf_Vpc encV_len (fun v=>v.id==c.a) n.vpcs 140 [.ept [.ept (wkD b n c .zero)]] h6 (fun v _=>network1_p b n c .zero v)
 unfold wkD at hx
 rw[hk]at hx
 clear hk
 have e1:decide ((k:Int) < 0)=false:=by simp
 have hkI:(k:Int) < (n.vpcs.length:Int):=by omega
 refine ms_i tab_ok mixed Tryz.func67 rfl Tryz.ntmps67 Tryz.results67 (by kernel_rfl) (by simp) (by simp[belowL,belowP]) (by simp[belowH,belowC,belowL,belowP,wkC,belowL_d,belowR_d]) ?_
 refine wk1 ?_
 exact wf
theorem network0_m (b:Bok)(n:Net)(c:Cmd)(h6:n.vpcs.length≤1000000000)(hk:idxI (fun v=>v.id==c.a) n.vpcs < 0):
 MSpec Tryz.prog 67 [.ptr 0 0] [.box 86 (wkC b (.own 1 n.vpcs.length) (.d (.sl 2 (n.links.map encK))) c .zero),.row 55 3 n.vpcs.length (dRows (n.vpcs.map encV))] (.d (.v (.pointer none)))
  [.box 86 (wkC b (.own 1 n.vpcs.length) (.d (.sl 2 (n.links.map encK))) c .zero),.row 55 3 n.vpcs.length (dRows (n.vpcs.map encV))]:=by
 have hx:=idxf_Vpc encV_len (fun v=>v.id==c.a) n.vpcs 140 [.ept [.ept (wkD b n c .zero)]] h6 (fun v _=>network1_p b n c .zero v)
 unfold wkD at hx
 have e1:decide (idxI (fun v=>v.id==c.a) n.vpcs < 0)=true:=by simpa using hk
 replace hk:=Lib.hid hk
 generalize idxI (fun v=>v.id==c.a) n.vpcs=i at*
 refine ms_i tab_ok mixed Tryz.func67 rfl Tryz.ntmps67 Tryz.results67 (by kernel_rfl) (by simp) (by simp[belowL,belowP]) (by simp[belowH,belowC,belowL,belowP,wkC,belowL_d,belowR_d]) ?_
 refine wk1 ?_
 exact wf
def innerV (b:Bok)(n:Net)(c:Cmd)(i:Nat)(v:Vpc):Bok × Net × Ans:=
 if c.op=8 then
  if (takeR b c.b c.c c.a).2.2=0 then ((takeR b c.b c.c c.a).1,(growN n c.a ⟨(takeR b c.b c.c c.a).2.1,c.b⟩).1,⟨(growN n c.a ⟨(takeR b c.b c.c c.a).2.1,c.b⟩).2,(takeR b c.b c.c c.a).2.1,0⟩)
  else ((takeR b c.b c.c c.a).1,n,⟨(takeR b c.b c.c c.a).2.2,(takeR b c.b c.c c.a).2.1,0⟩)
 else if c.op=9 then
  if (dropV v c.at_).2.2=0 then ((giveR b (dropV v c.at_).2.1.pool (dropV v c.at_).2.1.at_).1,{n with vpcs:=n.vpcs.set i (dropV v c.at_).1},.er (giveR b (dropV v c.at_).2.1.pool (dropV v c.at_).2.1.at_).2)
  else (b,{n with vpcs:=n.vpcs.set i (dropV v c.at_).1},.er (dropV v c.at_).2.2)
 else if c.op=10 then (b,{n with vpcs:=n.vpcs.set i (subV v c.b c.at_).1},.er (subV v c.b c.at_).2)
 else if c.op=11 then (b,{n with vpcs:=n.vpcs.set i (unsubV v c.b).1},.er (unsubV v c.b).2)
 else if c.op=12 then (b,{n with vpcs:=n.vpcs.set i (faceV v c.b c.c).1},⟨(faceV v c.b c.c).2.2,⟨0,0⟩,(faceV v c.b c.c).2.1⟩)
 else if c.op=13 then (b,{n with vpcs:=n.vpcs.set i (moreV v c.b c.c).1},⟨(moreV v c.b c.c).2.2,⟨0,0⟩,(moreV v c.b c.c).2.1⟩)
 else (b,{n with vpcs:=n.vpcs.set i (unfaceV v c.b c.c).1},.er (unfaceV v c.b c.c).2)
def innerS (b:Bok)(n:Net)(c:Cmd):Bok × Net × Ans:=
 if idxI (fun v=>v.id==c.a) n.vpcs < 0 then (b,n,.er 5)else
 match n.vpcs[(idxI (fun v=>v.id==c.a) n.vpcs).toNat]? with
 |some v=>innerV b n c (idxI (fun v=>v.id==c.a) n.vpcs).toNat v
 |none=>(b,n,.er 5)
theorem inner0_m (b:Bok)(n:Net)(c:Cmd)(h6:n.vpcs.length≤1000000000)(hk:idxI (fun v=>v.id==c.a) n.vpcs < 0):
 MSpec Tryz.prog 29 [.ptr 0 0] [.box 86 (wkC b (.own 1 n.vpcs.length) (.d (.sl 2 (n.links.map encK))) c .zero),.row 55 3 n.vpcs.length (dRows (n.vpcs.map encV))] (.d (.tup []))
  [.box 86 (wkC b (.d (.sl 3 (n.vpcs.map encV))) (.d (.sl 2 (n.links.map encK))) c (.er 5)),.gone]:=by
 have hw:=Lr.mk (ls:=[0,1]) (network0_m b n c h6 hk)
 simp only[wkC]at hw
 clear hk h6
 refine ms_i tab_ok mixed Tryz.func29 rfl Tryz.ntmps29 Tryz.results29 (by kernel_rfl) (by simp) (by simp[belowL,belowP]) (by simp[belowH,belowC,belowL,belowP,wkC,belowL_d,belowR_d]) ?_
 refine wk1 ?_
 refine(weak_freeze 1 n.vpcs.length 55 3 (n.vpcs.map encV) rfl).trans ?_
 simp only[fzE,fz,fzL,fzH,fzC,fzR,fzR_app,fzR_d,fzL_d,List.map_cons,List.map_nil,Nat.reduceAdd,Nat.reduceEqDiff,reduceIte,and_true,true_and,and_self,and_false,false_and,Nat.zero_add,Nat.add_zero,reduceCtorEq]
 exact wf
theorem innerV_m (b:Bok)(n:Net)(c:Cmd)(hz:∀p∈b.pools,p.leases.length≤3518437208882)(h6:n.vpcs.length≤1000000000)(k:Nat)(hk:idxI (fun v=>v.id==c.a) n.vpcs=k)(v:Vpc)(hv:n.vpcs[k]? =some v)(ho:8≤c.op∧c.op≤14):
 MSpec Tryz.prog 29 [.ptr 0 0] [.box 86 (wkC b (.own 1 n.vpcs.length) (.d (.sl 2 (n.links.map encK))) c .zero),.row 55 3 n.vpcs.length (dRows (n.vpcs.map encV))] (.d (.tup []))
  [.box 86 (wkC (innerV b n c k v).1 (.d (.sl 3 ((innerV b n c k v).2.1.vpcs.map encV))) (.d (.sl 2 ((innerV b n c k v).2.1.links.map encK))) c (innerV b n c k v).2.2),.gone]:=by
 have hlt:=(List.getElem?_eq_some_iff.1 hv).1
 have hkI:(k:Int) < (n.vpcs.length:Int):=by omega
 have hw:=Lr.mk (ls:=[0,1]) (network_m b n c h6 k hk hlt)
 simp only[wkC]at hw
 have hop:c.op=8∨c.op=9∨c.op=10∨c.op=11∨c.op=12∨c.op=13∨c.op=14:=by omega
 clear ho hk h6
 unfold innerV
 rcases hop with h1|h1|h1|h1|h1|h1|h1
 ·rw[if_pos h1]
  have hp:=take_p b c.b c.c c.a hz
  generalize takeR b c.b c.c c.a=R at*
  replace hz:=Lib.hid hz
  rw[h1]at hw
  by_cases h2:R.2.2=0
  ·rw[if_pos h2]
   have hg:=Ln.mk (ls:=[1]) (ms_frz (ngrow_p n c.a ⟨R.2.1,c.b⟩) (args:=[.agg [.own 0 n.vpcs.length,.d (.sl 2 (n.links.map encK))],.d (.v (.int .i64 c.a)),.d (.agg (encG ⟨R.2.1,c.b⟩))]) (h0:=[.row 55 3 n.vpcs.length (dRows (n.vpcs.map encV))]) (by simp[belowL,belowP]) (by simp[belowH,belowC,belowR_d]) (by simp[vw,viewL,viewF,hatL,viewR_d,encT]) (by simp[tc,tchL,tchF,hatL,tchR_d]))
   generalize growN n c.a ⟨R.2.1,c.b⟩=G at*
   refine ms_i tab_ok mixed Tryz.func29 rfl Tryz.ntmps29 Tryz.results29 (by kernel_rfl) (by simp) (by simp[belowL,belowP]) (by simp[belowH,belowC,belowL,belowP,wkC,belowL_d,belowR_d]) ?_
   refine wk1 ?_
   exact wf
  ·rw[if_neg h2]
   have e2:(R.2.2==0)=false:=by simpa using h2
   replace h2:=Lib.hid h2
   refine ms_i tab_ok mixed Tryz.func29 rfl Tryz.ntmps29 Tryz.results29 (by kernel_rfl) (by simp) (by simp[belowL,belowP]) (by simp[belowH,belowC,belowL,belowP,wkC,belowL_d,belowR_d]) ?_
   refine wk1 ?_
   refine(weak_freeze 1 n.vpcs.length 55 3 (n.vpcs.map encV) rfl).trans ?_
   simp only[fzE,fz,fzL,fzH,fzC,fzR,fzR_app,fzR_d,fzL_d,List.map_cons,List.map_nil,Nat.reduceAdd,Nat.reduceEqDiff,reduceIte,and_true,true_and,and_self,and_false,false_and,Nat.zero_add,Nat.add_zero,reduceCtorEq]
   exact wf
 ·rw[if_neg (by omega),if_pos h1]
  have hp:=vdrop_p v c.at_
  generalize dropV v c.at_=R at*
  have hg:=give_p b R.2.1.pool R.2.1.at_ hz
  replace hz:=Lib.hid hz
  rw[h1]at hw
  by_cases h2:R.2.2=0
  ·rw[if_pos h2]
   generalize giveR b R.2.1.pool R.2.1.at_=G at*
   have hrow:(dRows (n.vpcs.map encV)).set k [.d (.v (.int .i64 R.1.id)),.d (.sl 3 (R.1.ranges.map encG)),.d (.sl 4 (R.1.subs.map encN))]=dRows ((n.vpcs.set k R.1).map encV):=dRows_setrow encV n.vpcs k R.1
   refine ms_i tab_ok mixed Tryz.func29 rfl Tryz.ntmps29 Tryz.results29 (by kernel_rfl) (by simp) (by simp[belowL,belowP]) (by simp[belowH,belowC,belowL,belowP,wkC,belowL_d,belowR_d]) ?_
   refine wk1 ?_
   refine(weak_freeze 1 n.vpcs.length 55 3 ((n.vpcs.set k R.1).map encV) rfl).trans ?_
   simp only[fzE,fz,fzL,fzH,fzC,fzR,fzR_app,fzR_d,fzL_d,List.map_cons,List.map_nil,Nat.reduceAdd,Nat.reduceEqDiff,reduceIte,and_true,true_and,and_self,and_false,false_and,Nat.zero_add,Nat.add_zero,reduceCtorEq]
   exact wf
  ·rw[if_neg h2]
   have e2:(R.2.2==0)=false:=by simpa using h2
   replace h2:=Lib.hid h2
   clear hg
   have hrow:(dRows (n.vpcs.map encV)).set k [.d (.v (.int .i64 R.1.id)),.d (.sl 3 (R.1.ranges.map encG)),.d (.sl 4 (R.1.subs.map encN))]=dRows ((n.vpcs.set k R.1).map encV):=dRows_setrow encV n.vpcs k R.1
   refine ms_i tab_ok mixed Tryz.func29 rfl Tryz.ntmps29 Tryz.results29 (by kernel_rfl) (by simp) (by simp[belowL,belowP]) (by simp[belowH,belowC,belowL,belowP,wkC,belowL_d,belowR_d]) ?_
   refine wk1 ?_
   refine(weak_freeze 1 n.vpcs.length 55 3 ((n.vpcs.set k R.1).map encV) rfl).trans ?_
   simp only[fzE,fz,fzL,fzH,fzC,fzR,fzR_app,fzR_d,fzL_d,List.map_cons,List.map_nil,Nat.reduceAdd,Nat.reduceEqDiff,reduceIte,and_true,true_and,and_self,and_false,false_and,Nat.zero_add,Nat.add_zero,reduceCtorEq]
   exact wf
 ·rw[if_neg (by omega),if_neg (by omega),if_pos h1]
  have hp:=vsub_p v c.b c.at_
  generalize subV v c.b c.at_=R at*
  replace hz:=Lib.hid hz
  rw[h1]at hw
  have hrow:(dRows (n.vpcs.map encV)).set k [.d (.v (.int .i64 R.1.id)),.d (.sl 3 (R.1.ranges.map encG)),.d (.sl 4 (R.1.subs.map encN))]=dRows ((n.vpcs.set k R.1).map encV):=dRows_setrow encV n.vpcs k R.1
  refine ms_i tab_ok mixed Tryz.func29 rfl Tryz.ntmps29 Tryz.results29 (by kernel_rfl) (by simp) (by simp[belowL,belowP]) (by simp[belowH,belowC,belowL,belowP,wkC,belowL_d,belowR_d]) ?_
  refine wk1 ?_
  refine(weak_freeze 1 n.vpcs.length 55 3 ((n.vpcs.set k R.1).map encV) rfl).trans ?_
  simp only[fzE,fz,fzL,fzH,fzC,fzR,fzR_app,fzR_d,fzL_d,List.map_cons,List.map_nil,Nat.reduceAdd,Nat.reduceEqDiff,reduceIte,and_true,true_and,and_self,and_false,false_and,Nat.zero_add,Nat.add_zero,reduceCtorEq]
  exact wf
 ·rw[if_neg (by omega),if_neg (by omega),if_neg (by omega),if_pos h1]
  have hp:=unsub_p v c.b
  generalize unsubV v c.b=R at*
  replace hz:=Lib.hid hz
  rw[h1]at hw
  have hrow:(dRows (n.vpcs.map encV)).set k [.d (.v (.int .i64 R.1.id)),.d (.sl 3 (R.1.ranges.map encG)),.d (.sl 4 (R.1.subs.map encN))]=dRows ((n.vpcs.set k R.1).map encV):=dRows_setrow encV n.vpcs k R.1
  refine ms_i tab_ok mixed Tryz.func29 rfl Tryz.ntmps29 Tryz.results29 (by kernel_rfl) (by simp) (by simp[belowL,belowP]) (by simp[belowH,belowC,belowL,belowP,wkC,belowL_d,belowR_d]) ?_
  refine wk1 ?_
  refine(weak_freeze 1 n.vpcs.length 55 3 ((n.vpcs.set k R.1).map encV) rfl).trans ?_
  simp only[fzE,fz,fzL,fzH,fzC,fzR,fzR_app,fzR_d,fzL_d,List.map_cons,List.map_nil,Nat.reduceAdd,Nat.reduceEqDiff,reduceIte,and_true,true_and,and_self,and_false,false_and,Nat.zero_add,Nat.add_zero,reduceCtorEq]
  exact wf
 ·rw[if_neg (by omega),if_neg (by omega),if_neg (by omega),if_neg (by omega),if_pos h1]
  have hp:=vface_p v c.b c.c
  generalize faceV v c.b c.c=R at*
  replace hz:=Lib.hid hz
  rw[h1]at hw
  have hrow:(dRows (n.vpcs.map encV)).set k [.d (.v (.int .i64 R.1.id)),.d (.sl 3 (R.1.ranges.map encG)),.d (.sl 4 (R.1.subs.map encN))]=dRows ((n.vpcs.set k R.1).map encV):=dRows_setrow encV n.vpcs k R.1
  refine ms_i tab_ok mixed Tryz.func29 rfl Tryz.ntmps29 Tryz.results29 (by kernel_rfl) (by simp) (by simp[belowL,belowP]) (by simp[belowH,belowC,belowL,belowP,wkC,belowL_d,belowR_d]) ?_
  refine wk1 ?_
  refine(weak_freeze 1 n.vpcs.length 55 3 ((n.vpcs.set k R.1).map encV) rfl).trans ?_
  simp only[fzE,fz,fzL,fzH,fzC,fzR,fzR_app,fzR_d,fzL_d,List.map_cons,List.map_nil,Nat.reduceAdd,Nat.reduceEqDiff,reduceIte,and_true,true_and,and_self,and_false,false_and,Nat.zero_add,Nat.add_zero,reduceCtorEq]
  exact wf
 ·rw[if_neg (by omega),if_neg (by omega),if_neg (by omega),if_neg (by omega),if_neg (by omega),if_pos h1]
  have hp:=more_p v c.b c.c
  generalize moreV v c.b c.c=R at*
  replace hz:=Lib.hid hz
  rw[h1]at hw
  have hrow:(dRows (n.vpcs.map encV)).set k [.d (.v (.int .i64 R.1.id)),.d (.sl 3 (R.1.ranges.map encG)),.d (.sl 4 (R.1.subs.map encN))]=dRows ((n.vpcs.set k R.1).map encV):=dRows_setrow encV n.vpcs k R.1
  refine ms_i tab_ok mixed Tryz.func29 rfl Tryz.ntmps29 Tryz.results29 (by kernel_rfl) (by simp) (by simp[belowL,belowP]) (by simp[belowH,belowC,belowL,belowP,wkC,belowL_d,belowR_d]) ?_
  refine wk1 ?_
  refine(weak_freeze 1 n.vpcs.length 55 3 ((n.vpcs.set k R.1).map encV) rfl).trans ?_
  simp only[fzE,fz,fzL,fzH,fzC,fzR,fzR_app,fzR_d,fzL_d,List.map_cons,List.map_nil,Nat.reduceAdd,Nat.reduceEqDiff,reduceIte,and_true,true_and,and_self,and_false,false_and,Nat.zero_add,Nat.add_zero,reduceCtorEq]
  exact wf
 ·rw[if_neg (by omega),if_neg (by omega),if_neg (by omega),if_neg (by omega),if_neg (by omega),if_neg (by omega)]
  have hp:=unface_p v c.b c.c
  generalize unfaceV v c.b c.c=R at*
  replace hz:=Lib.hid hz
  rw[h1]at hw
  have hrow:(dRows (n.vpcs.map encV)).set k [.d (.v (.int .i64 R.1.id)),.d (.sl 3 (R.1.ranges.map encG)),.d (.sl 4 (R.1.subs.map encN))]=dRows ((n.vpcs.set k R.1).map encV):=dRows_setrow encV n.vpcs k R.1
  refine ms_i tab_ok mixed Tryz.func29 rfl Tryz.ntmps29 Tryz.results29 (by kernel_rfl) (by simp) (by simp[belowL,belowP]) (by simp[belowH,belowC,belowL,belowP,wkC,belowL_d,belowR_d]) ?_
  refine wk1 ?_
  refine(weak_freeze 1 n.vpcs.length 55 3 ((n.vpcs.set k R.1).map encV) rfl).trans ?_
  simp only[fzE,fz,fzL,fzH,fzC,fzR,fzR_app,fzR_d,fzL_d,List.map_cons,List.map_nil,Nat.reduceAdd,Nat.reduceEqDiff,reduceIte,and_true,true_and,and_self,and_false,false_and,Nat.zero_add,Nat.add_zero,reduceCtorEq]
  exact wf
theorem idxI_case {α:Type}(p:α→Bool)(l:List α):idxI p l < 0∨∃(k:Nat) (x:α),idxI p l=k∧l[k]? =some x:=by
 unfold idxI
 cases h:l.findIdx? p with
 |none=>left;simp
 |some k=>
  right
  have hk:=(List.findIdx?_eq_some_iff_getElem.1 h).1
  exact⟨k,_,rfl,List.getElem?_eq_getElem hk⟩
theorem inner_m (b:Bok)(n:Net)(c:Cmd)(hz:∀p∈b.pools,p.leases.length≤3518437208882)(h6:n.vpcs.length≤1000000000)(ho:8≤c.op∧c.op≤14):
 MSpec Tryz.prog 29 [.ptr 0 0] [.box 86 (wkC b (.own 1 n.vpcs.length) (.d (.sl 2 (n.links.map encK))) c .zero),.row 55 3 n.vpcs.length (dRows (n.vpcs.map encV))] (.d (.tup []))
  [.box 86 (wkC (innerS b n c).1 (.d (.sl 3 ((innerS b n c).2.1.vpcs.map encV))) (.d (.sl 2 ((innerS b n c).2.1.links.map encK))) c (innerS b n c).2.2),.gone]:=by
 unfold innerS
 rcases idxI_case (fun v:Vpc=>v.id==c.a) n.vpcs with h|⟨k,v,hk,hv⟩
 ·rw[if_pos h];exact inner0_m b n c h6 h
 ·rw[hk,if_neg (by omega),Int.toNat_natCast,hv]
  exact innerV_m b n c hz h6 k hk v hv ho
def actS (s:Ste)(c:Cmd):Ste × Ans:=
 if 1≤c.op∧c.op≤6 then (⟨(bookS s.book s.net.vpcs c).1,s.net⟩,(bookS s.book s.net.vpcs c).2)
 else if isNet c=true then (⟨s.book,(netS s.book s.net c).1⟩,(netS s.book s.net c).2)
 else if 8≤c.op∧c.op≤14 then (⟨(innerS s.book s.net c).1,(innerS s.book s.net c).2.1⟩,(innerS s.book s.net c).2.2)
 else (s,.er 4)
def doS (s:Ste)(c:Cmd):Ste × Ans × Int:=
 if chkSt s≠0 then (.zero,.zero,chkSt s)
 else if (actS s c).2.err≠0 then (s,.er (actS s c).2.err,0)else ((actS s c).1,(actS s c).2,0)
theorem chkSt_ok {s:Ste}(h:chkSt s=0):chkBk s.book=0∧chkT s.net=0:=by
 unfold chkSt at h
 split at h
 ·rename_i h1;exact absurd h h1
 ·rename_i h1
  split at h
  ·rename_i h2;exact absurd h h2
  ·rename_i h2;exact⟨by simpa using h1,by simpa using h2⟩
theorem do_p (s:Ste)(c:Cmd)(hz:∀p∈s.book.pools,p.leases.length≤3518437208882):PSpec Tryz.prog 8 [.agg (encSt s),.agg (encC c)] (.tup [.agg (encSt (doS s c).1),.agg (encAn (doS s c).2.1),.v (.int .i64 (doS s c).2.2)]):=by
 have hc:=scheck_p s hz
 unfold doS
 by_cases h:chkSt s=0
 ·rw[if_neg (by simpa using h)]
  rw[h]at hc
  obtain⟨hb0,hn0⟩:=chkSt_ok h
  have hbo:=bookOK hb0
  have hno:=netOK.1 hn0
  have n8:=hbo.n8
  have h32:=hbo.l32
  have n6:=hno.n6
  have hvr:∀v∈s.net.vpcs,v.ranges.length≤1000000000:=fun v hv=>by have:=(vpcOK_of (hno.vp v hv)).n4;omega
  have how:=Ln.mk (ls:=[]) (ownS_m s hbo hno)
  have hbk:=Ln.mk (ls:=[10,9]) (book_m s.book s.net.vpcs s.net.links c hz n6 hvr)
  clear h hb0 hn0 hbo hno hvr
  unfold actS
  by_cases hop:1≤c.op∧c.op≤6
  ·rw[if_pos hop]
   rw[decide_eq_true hop]at hbk
   replace hop:=Lib.hid hop
   replace hz:=Lib.hid hz
   replace h32:=Lib.hid h32
   generalize bookS s.book s.net.vpcs c=X at*
   simp only[wkC,Ans.zero]at hbk
   by_cases he:X.2.err=0
   ·rw[if_neg (by simpa using he)]
    have e0:(X.2.err !=0)=false:=by simpa using he
    replace he:=Lib.hid he
    refine pj Tryz.func8 Tryz.ntmps8 Tryz.results8 ?_
    first|exact wk0|(refine wk1 ?_;exact dz)
   ·rw[if_pos (by simpa using he)]
    have e0:(X.2.err !=0)=true:=by simpa using he
    replace he:=Lib.hid he
    refine pj Tryz.func8 Tryz.ntmps8 Tryz.results8 ?_
    first|exact wk0|(refine wk1 ?_;exact dz)
  rw[if_neg hop]
  rw[decide_eq_false hop]at hbk
  have hbs:bookS s.book s.net.vpcs c=(s.book,.zero):=by unfold bookS;rw[if_neg (by omega),if_neg (by omega),if_neg (by omega),if_neg (by omega),if_neg (by omega),if_neg (by omega)]
  rw[hbs]at hbk
  clear hbs
  cases hnt:isNet c with
  |true=>
   rw[if_pos rfl]
   have hnm:=Ln.mk (ls:=[10,9]) (netT_m s.book s.net c (by omega) (fun p hp=>by have:=h32 p hp;omega) hnt)
   replace hop:=Lib.hid hop
   replace hz:=Lib.hid hz
   replace h32:=Lib.hid h32
   replace hnt:=Lib.hid hnt
   generalize netS s.book s.net c=X at*
   simp only[wkC,Ans.zero]at hbk hnm
   by_cases he:X.2.err=0
   ·rw[if_neg (by simpa using he)]
    have e0:(X.2.err !=0)=false:=by simpa using he
    replace he:=Lib.hid he
    refine pj Tryz.func8 Tryz.ntmps8 Tryz.results8 ?_
    first|exact wk0|(refine wk1 ?_;exact dz)
   ·rw[if_pos (by simpa using he)]
    have e0:(X.2.err !=0)=true:=by simpa using he
    replace he:=Lib.hid he
    refine pj Tryz.func8 Tryz.ntmps8 Tryz.results8 ?_
    first|exact wk0|(refine wk1 ?_;exact dz)
  |false=>
   rw[if_neg Bool.false_ne_true]
   have hnm:=Ln.mk (ls:=[10,9]) (netF_m s.book s.net c hnt)
   by_cases ho2:8≤c.op∧c.op≤14
   ·rw[if_pos ho2]
    have hin:=Ln.mk (ls:=[10,9]) (inner_m s.book s.net c hz (by omega) ho2)
    have e1:decide (c.op < 8)=false:=by simp;omega
    have e2:decide (c.op>14)=false:=by simp;omega
    replace hop:=Lib.hid hop
    replace hz:=Lib.hid hz
    replace h32:=Lib.hid h32
    replace hnt:=Lib.hid hnt
    replace ho2:=Lib.hid ho2
    generalize innerS s.book s.net c=X at*
    simp only[wkC,Ans.zero]at hbk hnm hin
    by_cases he:X.2.2.err=0
    ·rw[if_neg (by simpa using he)]
     have e0:(X.2.2.err !=0)=false:=by simpa using he
     replace he:=Lib.hid he
     refine pj Tryz.func8 Tryz.ntmps8 Tryz.results8 ?_
     first|exact wk0|(refine wk1 ?_;exact dz)
    ·rw[if_pos (by simpa using he)]
     have e0:(X.2.2.err !=0)=true:=by simpa using he
     replace he:=Lib.hid he
     refine pj Tryz.func8 Tryz.ntmps8 Tryz.results8 ?_
     first|exact wk0|(refine wk1 ?_;exact dz)
   ·rw[if_neg ho2]
    rw[if_pos (by simp[Ans.er])]
    replace hz:=Lib.hid hz
    replace h32:=Lib.hid h32
    replace hnt:=Lib.hid hnt
    replace hop:=Lib.hid hop
    simp only[wkC,Ans.zero]at hbk hnm
    by_cases h8:c.op < 8
    ·have e1:decide (c.op < 8)=true:=by simpa using h8
     replace h8:=Lib.hid h8
     replace ho2:=Lib.hid ho2
     refine pj Tryz.func8 Tryz.ntmps8 Tryz.results8 ?_
     first|exact wk0|(refine wk1 ?_;exact dz)
    ·have e1:decide (c.op < 8)=false:=by simpa using h8
     have e2:decide (c.op>14)=true:=by simp;omega
     replace h8:=Lib.hid h8
     replace ho2:=Lib.hid ho2
     refine pj Tryz.func8 Tryz.ntmps8 Tryz.results8 ?_
     first|exact wk0|(refine wk1 ?_;exact dz)
 ·rw[if_pos h]
  have e1:(chkSt s !=0)=true:=by simpa using h
  generalize chkSt s=X at*
  replace h:=Lib.hid h
  refine pj Tryz.func8 Tryz.ntmps8 Tryz.results8 ?_
  refine wk1 ?_
  exact dz
theorem dle_i {a b:Int}(h:b=a):DLe (.v (.int .i64 a)) (.v (.int .i64 b)):=h ▸ DLe.refl _
def atI (b:Bok)(id:Int):Int:=match b.pools.findIdx? fun p=>p.id==id with|some i=>i|none=> -1
theorem atI_hit {b:Bok}{id:Int}{k:Nat}{p:Pol}(hp:b.pools[k]? =some p)(hid:p.id=id)(hno:∀j q,j < k→b.pools[j]? =some q→q.id≠id):atI b id=k:=by
 unfold atI
 have:b.pools.findIdx? (fun p=>p.id==id)=some k:=by
  obtain⟨hk,he⟩:=List.getElem?_eq_some_iff.1 hp
  rw[List.findIdx?_eq_some_iff_getElem]
  refine⟨hk,by rw[he];simpa using hid,fun j hj=>?_⟩
  have:=hno j _ hj (List.getElem?_eq_getElem (Nat.lt_trans hj hk))
  simpa using this
 rw[this]
theorem atI_none {b:Bok}{id:Int}(hno:∀j q,j < b.pools.length→b.pools[j]? =some q→q.id≠id):atI b id= -1:=by
 unfold atI
 have:b.pools.findIdx? (fun p=>p.id==id)=none:=by
  rw[List.findIdx?_eq_none_iff]
  intro q hq
  obtain⟨j,hj,rfl⟩:=List.mem_iff_getElem.1 hq
  have:=hno j _ hj (List.getElem?_eq_getElem hj)
  simpa using this
 rw[this]
theorem atI_some {b:Bok}{id:Int}{p:Pol}(h:poolOf b id=some p):∃i:Nat,atI b id=i∧b.pools[i]? =some p∧p.id=id:=by
 unfold atI
 unfold poolOf at h
 cases hf:b.pools.findIdx? fun p=>p.id==id with
 |none=>
  rw[List.findIdx?_eq_none_iff]at hf
  have h1:=hf p (List.mem_of_find?_eq_some h)
  rw[List.find?_some h]at h1;exact absurd h1 (by simp)
 |some i=>
  obtain⟨hi,hp,hno⟩:=List.findIdx?_eq_some_iff_getElem.1 hf
  refine⟨i,rfl,?_,by simpa using List.find?_some h⟩
  obtain⟨-,j,hj,he,hno2⟩:=List.find?_eq_some_iff_getElem.1 h
  have hij:i=j:=by
   rcases Nat.lt_trichotomy i j with hlt|h|hlt
   ·have:=hno2 i hlt
    rw[hp]at this;exact absurd this (by simp)
   ·exact h
   ·have h1:=hno j hlt
    have h2:=List.find?_some h
    rw[he]at h1
    exact absurd h2 h1
  rw[hij,List.getElem?_eq_getElem hj,he]
theorem poolAt_p (b:Bok)(id:Int)(hl:b.pools.length≤9223372036854775807):PSpec Tryz.prog 18 [.agg (encB b),.v (.int .i64 id)] (.v (.int .i64 (atI b id))):=by
 refine pj Tryz.func18 Tryz.ntmps18 Tryz.results18 ?_
 refine wk1 ?_<;>intros
 refine loopL tab_ok mixed b.pools (fun k=>∀j (q:Pol),j < k→b.pools[j]? =some q→q.id≠id) (fun k=>[(5,.d (.v (.int .i64 k))),(4,.d (.v (.int .i64 0))),(2,.ptr 0 0),(1,.d (.v (.int .i64 id)))]) (fun _=>[.box 24 ((encB b).map .d)]) (fun j q h=>absurd h (Nat.not_lt_zero _)) (weak_forget _ (by simp) (by(try simp only[encB]);rfl) se bl bl) ?_ ?_
 ·intro k p hp hk hI C hC
  have hkI:(k:Int) < (b.pools.length:Int):=by omega
  have hwr:=wi k (by omega)
  replace hI:=Lib.hid hI
  refine wk2 ?_ ?_<;>intros
  ·rename_i h1
   exact dle_i (atI_hit hp (by simpa using h1) hI.out)
  ·rename_i h1
   refine hC _ _ (fun j q hj hq=>?_) (weak_forget _ (by simp) (by(try simp only[encB]);rfl) se bl bl)
   rcases Nat.lt_or_ge j k with h|h
   ·exact hI.out j q h hq
   ·obtain rfl:j=k:=by omega
    rw[hp]at hq
    obtain rfl:=Option.some.inj hq
    simpa using h1
 ·intro hI C
  replace hI:=Lib.hid hI
  refine wk1 ?_<;>intros
  exact dle_i (atI_none hI.out)
theorem Bok.zero_le:DLe (.agg [.v (.int .i64 0),.v (.slice none 0 0)]) (.agg (encB Bok.zero)):=dg
@[go_sem] def Lse.zero:Lse:=⟨Pfx.zero,0,0,0⟩
def leaseAtR (b:Bok)(id:Int)(at_:Pfx):Option Lse:=match poolOf b id with|some p=>p.leases.find? (giveB at_)|none=>none
def Small (b:Bok):Prop:=b.pools.length≤1000000000∧∀p∈b.pools,p.leases.length≤1000000000
@[go_sem] def looseR:Rul:=⟨8,16,12,3⟩
theorem loose_p:PSpec Tryz.prog 86 [] (.agg (encR looseR)):=by
 refine pj Tryz.func86 Tryz.ntmps86 Tryz.results86 ?_
 exact wk0
theorem small_zero:Small Bok.zero:=⟨Nat.zero_le _,fun p hp=>by simp[Bok.zero]at hp⟩
theorem small_ok {b:Bok}(h:BookOK b):b.pools.length≤8∧∀p∈b.pools,p.leases.length≤32:=⟨h.n8,h.l32⟩
theorem insB_len (p:Pol)(ps:List Pol):(insB p ps).length=ps.length+1:=by
 have:=lbN_leB (fun x:Pol=>x.id) p.id ps
 unfold insB
 simp;omega
theorem insB_mem {p q:Pol}{ps:List Pol}(h:q∈insB p ps):q=p∨q∈ps:=by
 unfold insB at h
 simp only[List.mem_append,List.mem_cons]at h
 rcases h with h|h|h
 ·exact .inr (List.mem_of_mem_take h)
 ·exact .inl h
 ·exact .inr (List.mem_of_mem_drop h)
theorem insL_len (l:Lse)(ls:List Lse):(insL l ls).length=ls.length+1:=by
 have:=lbN_leB (fun x:Lse=>x.at_.at_) l.at_.at_ ls
 unfold insL
 simp;omega
theorem coolL_len (p:Pol)(i:Nat)(t:Int):(coolL p i t).length≤p.leases.length:=by
 unfold coolL
 split
 ·rw[List.length_eraseIdx];split<;>omega
 ·split
  ·rw[List.length_set];exact Nat.le_refl _
  ·exact Nat.le_refl _
theorem updB_small {b:Bok}{id:Int}{f:Pol→Pol}(h:b.pools.length≤8)(h2:∀p∈b.pools,p.leases.length≤32∧(f p).leases.length≤33):(updB b id f).pools.length≤8∧∀p∈(updB b id f).pools,p.leases.length≤33:=by
 unfold updB
 refine⟨by simpa using h,fun p hp=>?_⟩
 obtain⟨q,hq,rfl⟩:=List.mem_map.1 hp
 split
 ·exact(h2 q hq).2
 ·have:=(h2 q hq).1;omega
theorem upd_small {b:Bok}{id:Int}{f:Pol→Pol}(h:(updB b id f).pools.length≤8∧∀p∈(updB b id f).pools,p.leases.length≤33):Small (updB b id f):=⟨by have:=h.1;omega,fun q hq=>by have:=h.2 q hq;omega⟩
theorem ins_small {b:Bok}{t:Int}{p:Pol}(h:b.pools.length≤8∧∀p∈b.pools,p.leases.length≤33)(hp:p.leases=[]):Small ⟨t,insB p b.pools⟩:=⟨by simp only[insB_len];omega,fun q hq=>by
 rcases insB_mem hq with rfl|hq
 ·rw[hp];exact Nat.zero_le _
 ·have:=h.2 q hq;omega⟩
theorem openR_small (b:Bok)(id:Int)(root:Pfx)(r:Rul):Small (openR b id root r).1:=by
 unfold openR
 split
 ·exact small_zero
 ·rename_i hc
  have hk:=small_ok (bookOK (by simpa using hc))
  split
  ·exact small_zero
  ·refine⟨by simp only[insB_len];omega,fun p hp=>?_⟩
   rcases insB_mem hp with rfl|hp
   ·exact Nat.zero_le _
   ·have:=hk.2 p hp;omega
theorem nestR_small (b:Bok)(id up size:Int)(r:Rul):Small (nestR b id up size r).1:=by
 unfold nestR
 split
 ·exact small_zero
 ·rename_i hc
  have hk:=small_ok (bookOK (by simpa using hc))
  split
  ·exact small_zero
  ·split
   ·exact small_zero
   ·split
    ·exact small_zero
    ·split
     ·exact small_zero
     ·split
      ·exact small_zero
      ·split
       ·exact small_zero
       ·exact ins_small (updB_small hk.1 (fun q hq=>⟨hk.2 q hq,by simp only[insL_len];have:=hk.2 q hq;omega⟩)) rfl
theorem takeR_small (b:Bok)(id size owner:Int):Small (takeR b id size owner).1:=by
 unfold takeR
 split
 ·exact small_zero
 ·rename_i hc
  have hk:=small_ok (bookOK (by simpa using hc))
  split
  ·exact small_zero
  ·split
   ·exact small_zero
   ·rename_i p _ _
    generalize fitE p (if size=0 then p.rule.usual else size)=F
    simp only
    split
    ·exact small_zero
    ·exact upd_small (updB_small hk.1 (fun q hq=>⟨hk.2 q hq,by simp only[insL_len];have:=hk.2 q hq;omega⟩))
theorem giveR_small (b:Bok)(id:Int)(at_:Pfx):Small (giveR b id at_).1:=by
 unfold giveR
 split
 ·exact small_zero
 ·rename_i hc
  have hk:=small_ok (bookOK (by simpa using hc))
  split
  ·exact small_zero
  ·split
   ·exact small_zero
   ·rename_i i _
    exact upd_small (updB_small hk.1 (fun q hq=>⟨hk.2 q hq,by have:=hk.2 q hq;have:=coolL_len q i b.tick;simp only;omega⟩))
theorem closeR_small (b:Bok)(id:Int):Small (closeR b id).1:=by
 unfold closeR
 split
 ·exact small_zero
 ·rename_i hc
  have hk:=small_ok (bookOK (by simpa using hc))
  split
  ·exact small_zero
  ·split
   ·exact small_zero
   ·rename_i p _ _
    have hcl:(closeL b p).length≤8∧∀q∈closeL b p,q.leases.length≤33:=by
     unfold closeL
     split
     ·exact⟨hk.1,fun q hq=>by have:=hk.2 q hq;omega⟩
     ·split
      ·rename_i u _ _ i _
       exact updB_small (b:=b) (id:=u.id) (f:=fun q=>{q with leases:=coolL q i b.tick}) hk.1 (fun q hq=>⟨hk.2 q hq,by have:=hk.2 q hq;have:=coolL_len q i b.tick;simp only;omega⟩)
      ·exact⟨hk.1,fun q hq=>by have:=hk.2 q hq;omega⟩
    exact⟨by have:=List.length_filter_le (fun q:Pol=>!(q.id==id)) (closeL b p);simp only;omega,fun q hq=>by have:=hcl.2 q (List.mem_filter.1 hq).1;omega⟩
theorem passR_small (b:Bok)(n:Int):Small (passR b n).1:=by
 unfold passR
 split
 ·exact small_zero
 ·rename_i hc
  have hk:=small_ok (bookOK (by simpa using hc))
  split
  ·exact small_zero
  ·refine⟨by simp only[List.length_map];omega,fun q hq=>?_⟩
   obtain⟨p,hp,rfl⟩:=List.mem_map.1 hq
   have:=hk.2 p hp
   have:=List.length_filter_le (fun l=>!overB (b.tick+n) l) p.leases
   simp only[passP];omega
def SmallS (s:Sbn):Prop:=s.faces.length≤1000000000∧∀f∈s.faces,f.addrs.length≤1000000000
def SmallV (v:Vpc):Prop:=v.ranges.length≤1000000000∧v.subs.length≤1000000000∧∀s∈v.subs,SmallS s
theorem smallV_zero:SmallV Vpc.zero:=⟨Nat.zero_le _,Nat.zero_le _,fun s h=>by simp[Vpc.zero]at h⟩
theorem smallS_ok {v:Vpc}(h:VpcOK v):∀s∈v.subs,SmallS s:=fun s hs=>⟨by have:=(h.n8 s hs).1;omega,fun f hf=>by have:=(h.n8 s hs).2 f hf;omega⟩
theorem smallV_set {v:Vpc}(h:VpcOK v){i:Nat}{s:Sbn}(hs:SmallS s):SmallV {v with subs:=v.subs.set i s}:=⟨by have:=h.n4;show v.ranges.length≤_;omega,by have:=h.n6;show (v.subs.set i s).length≤_;rw[List.length_set];omega,fun t ht=>by
 rcases List.mem_or_eq_of_mem_set ht with ht|rfl
 ·exact smallS_ok h t ht
 ·exact hs⟩
theorem dropV_small (v:Vpc)(p:Pfx):SmallV (dropV v p).1:=by
 unfold dropV
 split
 ·exact smallV_zero
 ·rename_i hc
  have hk:=vpcOK_of (by simpa using hc)
  split
  ·exact smallV_zero
  ·split
   ·exact smallV_zero
   ·exact⟨by have:=hk.n4;show (v.ranges.eraseIdx _).length≤_;rw[List.length_eraseIdx];split<;>omega,by have:=hk.n6;show v.subs.length≤_;omega,fun s hs=>smallS_ok hk s hs⟩
theorem subV_small (v:Vpc)(id:Int)(p:Pfx):SmallV (subV v id p).1:=by
 unfold subV
 split
 ·exact smallV_zero
 ·rename_i hc
  have hk:=vpcOK_of (by simpa using hc)
  split
  ·exact smallV_zero
  ·refine⟨by have:=hk.n4;show v.ranges.length≤_;omega,by have:=hk.n6;show (insK _ _ v.subs).length≤_;rw[insK_len];omega,fun s hs=>?_⟩
   rcases insK_mem.1 hs with rfl|hs
   ·exact⟨Nat.zero_le _,fun f hf=>by simp at hf⟩
   ·exact smallS_ok hk s hs
theorem unsubV_small (v:Vpc)(id:Int):SmallV (unsubV v id).1:=by
 unfold unsubV
 split
 ·exact smallV_zero
 ·rename_i hc
  have hk:=vpcOK_of (by simpa using hc)
  split
  ·exact smallV_zero
  ·split
   ·exact smallV_zero
   ·exact⟨by have:=hk.n4;show v.ranges.length≤_;omega,by have:=hk.n6;show (v.subs.eraseIdx _).length≤_;rw[List.length_eraseIdx];split<;>omega,fun s hs=>smallS_ok hk s (List.mem_of_mem_eraseIdx hs)⟩
theorem faceV_small (v:Vpc)(sub id:Int):SmallV (faceV v sub id).1:=by
 unfold faceV
 split
 ·exact smallV_zero
 ·rename_i hc
  have hk:=vpcOK_of (by simpa using hc)
  split
  ·exact smallV_zero
  ·split
   ·exact smallV_zero
   ·rename_i s hs
    have h8:=hk.n8 s (List.mem_of_getElem? hs)
    split
    ·exact smallV_zero
    ·refine smallV_set hk ⟨by show (insK _ _ s.faces).length≤_;rw[insK_len];omega,fun f hf=>?_⟩
     rcases insK_mem.1 hf with rfl|hf
     ·show 1≤1000000000;omega
     ·have:=h8.2 f hf;omega
theorem unfaceV_small (v:Vpc)(sub id:Int):SmallV (unfaceV v sub id).1:=by
 unfold unfaceV
 split
 ·exact smallV_zero
 ·rename_i hc
  have hk:=vpcOK_of (by simpa using hc)
  split
  ·exact smallV_zero
  ·split
   ·exact smallV_zero
   ·rename_i s hs
    have h8:=hk.n8 s (List.mem_of_getElem? hs)
    split
    ·exact smallV_zero
    ·exact smallV_set hk ⟨by show (s.faces.eraseIdx _).length≤_;rw[List.length_eraseIdx];split<;>omega,fun f hf=>by have:=h8.2 f (List.mem_of_mem_eraseIdx hf);omega⟩
theorem moreV_small (v:Vpc)(sub id:Int):SmallV (moreV v sub id).1:=by
 unfold moreV
 split
 ·exact smallV_zero
 ·rename_i hc
  have hk:=vpcOK_of (by simpa using hc)
  split
  ·exact smallV_zero
  ·split
   ·exact smallV_zero
   ·rename_i s hs
    have h8:=hk.n8 s (List.mem_of_getElem? hs)
    split
    ·exact smallV_zero
    ·split
     ·exact smallV_zero
     ·rename_i f hf
      have hfl:=h8.2 f (List.mem_of_getElem? hf)
      split
      ·exact smallV_zero
      ·split
       ·exact smallV_zero
       ·refine smallV_set hk ⟨by show (s.faces.set _ _).length≤_;rw[List.length_set];omega,fun g hg=>?_⟩
        rcases List.mem_or_eq_of_mem_set hg with hg|rfl
        ·have:=h8.2 g hg;omega
        ·show (insK _ _ f.addrs).length≤_
         rw[insK_len];omega
section
variable (lk:Nat→Nat→Bool)
end
def heads (L:List Lnk):Int→Int:=L.foldl stepF (fun x=>x)
theorem stepF_keep {F:Int→Int}{x y:Int}(h:F x=F y)(l:Lnk):stepF F l x=stepF F l y:=by unfold stepF;rw[h]
theorem foldF_keep {x y:Int}:∀(L:List Lnk) (F:Int→Int),F x=F y→L.foldl stepF F x=L.foldl stepF F y
 |[],_,h=>h
 |l::L,F,h=>foldF_keep L _ (stepF_keep h l)
theorem foldF_link {l:Lnk}:∀(L:List Lnk) (F:Int→Int),l∈L→L.foldl stepF F l.a=L.foldl stepF F l.b
 |m::L,F,h=>by
  rcases List.mem_cons.1 h with rfl|h
  ·refine foldF_keep L _ ?_
   unfold stepF
   rw[if_pos rfl]
   split<;>rfl
  ·exact foldF_link L _ h
theorem heads_link {L:List Lnk}{l:Lnk}(h:l∈L):heads L l.a=heads L l.b:=foldF_link L _ h
theorem foldF_sound {S:Int→Prop}:∀(L:List Lnk) (F:Int→Int),(∀l∈L,S l.a↔S l.b)→(∀x y,F x=F y→(S x↔S y))→∀x y,L.foldl stepF F x=L.foldl stepF F y→(S x↔S y)
 |[],_,_,hF,x,y,h=>hF x y h
 |l::L,F,hL,hF,x,y,h=>by
  refine foldF_sound L (stepF F l) (fun m hm=>hL m (List.mem_cons_of_mem _ hm)) (fun u v huv=>?_) x y h
  have hl:=hL l (by simp)
  unfold stepF at huv
  by_cases h1:F u=F l.b
  ·by_cases h2:F v=F l.b
   ·exact hF u v (h1.trans h2.symm)
   ·rw[if_pos h1,if_neg h2]at huv
    exact(hF u l.b h1).trans (hl.symm.trans (hF l.a v huv))
  ·by_cases h2:F v=F l.b
   ·rw[if_neg h1,if_pos h2]at huv
    exact(hF u l.a huv).trans (hl.trans (hF v l.b h2).symm)
   ·rw[if_neg h1,if_neg h2]at huv
    exact hF u v huv
theorem heads_sound {S:Int→Prop}{L:List Lnk}(hL:∀l∈L,S l.a↔S l.b){x y:Int}(h:heads L x=heads L y):S x↔S y:=
 foldF_sound L _ hL (fun x y h=>by rw[h]) x y h
theorem headN_eq (n:Net):headN n=heads n.links:=by
 unfold headN stN heads
 have key:∀(L:List Lnk) (s:List (List Int × Int) × (Int→Int)),(L.foldl stepG s).2=L.foldl stepF s.2:=by
  intro L
  induction L with
  |nil=>intro s;rfl
  |cons l L ih=>intro s;rw[List.foldl_cons,List.foldl_cons,ih];rfl
 exact key _ _
@[go_sem] def encBo (b:Bool):List D:=[.v (.bool b)]
@[go_sem] theorem bo_repl (n:Nat)(b:Bool):List.replicate n [PV.d (.v (.bool b))]=dRows ((List.replicate n b).map encBo):=by simp[dRows,encBo,List.map_replicate]
theorem clashV_comm (v w:Vpc):clashV v w=clashV w v:=by
 have key:∀v w:Vpc,clashV v w=true→clashV w v=true:=fun v w h=>by
  unfold clashV at h ⊢
  obtain⟨r,hr,h⟩:=List.any_eq_true.1 h
  obtain⟨q,hq,h⟩:=List.any_eq_true.1 h
  exact List.any_eq_true.2 ⟨q,hq,List.any_eq_true.2 ⟨r,hr,by rw[meets_comm];exact h⟩⟩
 rw[Bool.eq_iff_iff]
 exact⟨key v w,key w v⟩
theorem foeN_comm (n:Net)(v w:Vpc):foeN n v w=foeN n w v:=by
 unfold foeN
 rw[clashV_comm v w,Bool.beq_comm]
theorem peace_war {n:Net}{i j:Nat}{v w:Vpc}(hij:i≠j)(hv:n.vpcs[i]? =some v)(hw:n.vpcs[j]? =some w)(h:foeN n v w=true):peaceN n=false:=by
 rcases Nat.lt_or_gt_of_ne hij with hlt|hlt
 ·exact peace_bad hlt hw hv (by rw[foeN_comm];exact h)
 ·exact peace_bad hlt hv hw h
theorem rise_ne {n:Net}(hr:n.vpcs.Pairwise fun a b=>a.id < b.id){i:Nat}{v w:Vpc}(hv:n.vpcs[i]? =some v)(hw:w∈n.vpcs.take i):w.id≠v.id:=by
 obtain⟨j,hj,rfl⟩:=List.mem_iff_getElem.1 hw
 rw[List.getElem_take]
 obtain⟨hi,rfl⟩:=List.getElem?_eq_some_iff.1 hv
 have:=List.pairwise_iff_getElem.1 hr j i (by rw[List.length_take]at hj;omega) hi (by rw[List.length_take]at hj;omega)
 omega
def NetZ (n:Net):Prop:=∀v∈n.vpcs,v.subs.length≤9223372036854775807∧∀s∈v.subs,s.faces.length≤9223372036854775807
def rdl:List (List D)→List (List D)→Prop
 |[],[]=>True
 |r::l,s::m=>dles r s∧rdl l m
 |_,_=>False
theorem rdl_at:∀{l m:List (List D)},rdl l m→l.length=m.length∧∀(j:Nat) (a b:List D),l[j]? =some a→m[j]? =some b→dles a b
 |[],[],_=>⟨rfl,fun j a b h=>by simp at h⟩
 |[],_::_,h=>h.elim
 |_::_,[],h=>h.elim
 |r::l,s::m,⟨h1,h2⟩=>by
  obtain⟨q1,q2⟩:=rdl_at h2
  refine⟨by simp[q1],fun j a b ha hb=>?_⟩
  cases j with
  |zero=>simp at ha hb;subst ha;subst hb;exact h1
  |succ j=>exact q2 j a b (by simpa using ha) (by simpa using hb)
theorem DLe.sl {sz:Nat}{l m:List (List D)}(h:rdl l m)(h1:∀r∈m,∀d∈r,d.one=true):DLe (.sl sz l) (.sl sz m):=fun M w v hr=>by
 obtain⟨q1,q2⟩:=rdl_at h
 cases hr with
 |nil _ ao cap hm=>
  have:m=[]:=List.eq_nil_of_length_eq_zero (by rw[←q1];rfl)
  subst this
  exact .nil sz ao cap hm
 |sl _ rows b off cap f hM hb hc hm hr _ hcell hrep=>
  rw[q1]
  have row:∀(i:Nat) (s:List D),m[i]? =some s→∃r,l[i]? =some r∧dles r s:=fun i s hs=>by
   obtain⟨hlt,-⟩:=List.getElem?_eq_some_iff.1 hs
   exact⟨l[i]'(by omega),List.getElem?_eq_getElem (by omega),q2 i _ s (List.getElem?_eq_getElem (by omega)) hs⟩
  refine .sl sz m b off cap f hM hb (by omega) hm (fun s hs=>?_) h1 (fun i j hi hj=>hcell i j (by omega) hj) (fun i j s d hs hd=>?_)
  ·obtain⟨i,hi,rfl⟩:=List.mem_iff_getElem.1 hs
   obtain⟨r,e1,e2⟩:=row i _ (List.getElem?_eq_getElem hi)
   rw[←(dles_at e2).1]
   exact hr r (List.mem_of_getElem? e1)
  ·obtain⟨r,e1,e2⟩:=row i s hs
   obtain⟨p1,p2⟩:=dles_at e2
   obtain⟨hlt,-⟩:=List.getElem?_eq_some_iff.1 hd
   exact p2 j _ d (List.getElem?_eq_getElem (by omega)) hd M w _ (hrep i j r _ e1 (List.getElem?_eq_getElem (by omega)))
theorem vpcOK_to {v:Vpc}(h:VpcOK v):chkV v=0:=by
 rw[vpcOK]
 refine⟨?_,?_,h.ar,h.as_⟩
 ·simp only[manyV,Bool.or_eq_false_iff,decide_eq_false_iff_not,List.any_eq_false]
  refine⟨by have:=h.n4;omega,by have:=h.n6;omega,fun s hs=>?_⟩
  have h8:=h.n8 s hs
  simp only[manyN,Bool.not_eq_true,Bool.or_eq_false_iff,decide_eq_false_iff_not,List.any_eq_false]
  refine⟨by omega,fun f hf=>?_⟩
  have:=h8.2 f hf
  simp[manyF]
  omega
 ·unfold fineV
  simp only[Bool.and_eq_true,List.all_eq_true,risB_pair]
  exact⟨⟨h.id,h.rr,h.rs⟩,h.ranges,h.subs⟩
theorem growV_chk {v:Vpc}{r:Rng}(h:(growV v r).2=0):chkV (growV v r).1=0:=by
 unfold growV at h ⊢
 by_cases h1:chkV v≠0
 ·rw[if_pos h1]at h;exact absurd h h1
 rw[if_neg h1]at h ⊢
 have hk:=vpcOK_of (by simpa using h1)
 by_cases h2:growE v r≠0
 ·rw[if_pos h2]at h;exact absurd h h2
 rw[if_neg h2]at h ⊢
 have h3:growE v r=0:=by simpa using h2
 obtain⟨g1,g2,g3,g4⟩:idOK r.pool=true∧chk r.at_.at_ r.at_.len=0∧(v.ranges.any fun q=>q.at_.meets r.at_)=false∧v.ranges.length≠4:=by
  unfold growE at h3
  generalize (v.ranges.any fun q=>q.at_.meets r.at_)=M at*
  generalize idOK r.pool=I at*
  grind
 have hrr:r.at_.right=true:=by simp[Pfx.right,rightB,g2]
 have hno:∀q∈v.ranges,q.at_.meets r.at_=false:=fun q hq=>by simpa using List.any_eq_false.1 g3 q hq
 have hne:∀q∈v.ranges,q.at_.at_≠r.at_.at_:=fun q hq=>meets_at (rangeB_right (hk.ranges q hq)) hrr (hno q hq)
 refine vpcOK_to ⟨?_,hk.n6,hk.n8,hk.id,insK_sorted hk.rr hne,hk.rs,fun q hq=>?_,fun s hs=>?_,?_,hk.as_⟩
 ·simp only[insK_len];have:=hk.n4;omega
 ·rcases insK_mem.1 hq with rfl|hq
  ·simp[rangeB,g1,g2]
  ·exact hk.ranges q hq
 ·have h4:=hk.subs s hs
  unfold subB at h4 ⊢
  simp only[Bool.and_eq_true]at h4 ⊢
  refine⟨h4.1,?_,h4.2.2⟩
  have h5:=h4.2.1
  unfold holdsV at h5 ⊢
  obtain⟨q,hq,h6⟩:=List.any_eq_true.1 h5
  exact List.any_eq_true.2 ⟨q,insK_mem.2 (.inr hq),h6⟩
 ·rw[apaF_nil]
  have hp:((insK (fun x:Rng=>x.at_.at_) r v.ranges).map (·.at_)).Perm (r.at_::v.ranges.map (·.at_)):=by
   refine((insK_perm (fun x:Rng=>x.at_.at_) r v.ranges).map (·.at_)).trans ?_
   rw[List.map_append]
   exact List.perm_append_singleton _ _
  refine(List.Perm.pairwise_iff (R:=fun a b:Pfx=>b.meets a=false) (fun {a b} hab=>by rw[meets_comm];exact hab) hp).2 ?_
  rw[List.pairwise_cons]
  refine⟨fun a ha=>?_,apaF_nil.1 hk.ar⟩
  obtain⟨q,hq,rfl⟩:=List.mem_map.1 ha
  exact hno q hq
theorem grown_chk {n:Net}(hok:NetOK n){i:Nat}{v:Vpc}(hv:n.vpcs[i]? =some v){r:Rng}(hg:(growV v r).2=0):(chkT {n with vpcs:=n.vpcs.set i (growV v r).1}=0↔peaceN {n with vpcs:=n.vpcs.set i (growV v r).1}=true)∧NetZ {n with vpcs:=n.vpcs.set i (growV v r).1}:=by
 have hvk:=hok.vp v (List.mem_of_getElem? hv)
 have hgo:=growV_ok hg
 have hck:chkV (growV v r).1=0:=growV_chk hg
 obtain⟨hi,hve⟩:=List.getElem?_eq_some_iff.1 hv
 have hids:(n.vpcs.set i (growV v r).1).map (·.id)=n.vpcs.map (·.id):=by
  rw[List.map_set,hgo.1]
  apply List.ext_getElem?
  intro j
  rw[List.getElem?_set]
  split
  ·rename_i hj
   subst hj
   rw[List.length_map,if_pos hi,List.getElem?_map,hv];rfl
  ·rfl
 generalize (growV v r).1=w at*
 have hvp:∀u∈n.vpcs.set i w,chkV u=0:=fun u hu=>by
  rcases List.mem_or_eq_of_mem_set hu with hu|rfl
  ·exact hok.vp u hu
  ·exact hck
 have hri:(n.vpcs.set i w).Pairwise fun a b=>a.id < b.id:=by
  have h1:=hok.rise
  rw[←List.pairwise_map (f:=fun v:Vpc=>v.id) (R:=fun a b:Int=>a < b)]at h1 ⊢
  rw[hids];exact h1
 have hfi:∀x,(findN {n with vpcs:=n.vpcs.set i w} x).isSome=(findN n x).isSome:=fun x=>by
  have key:∀l:List Vpc,(l.find? fun v=>v.id==x).isSome=decide (x∈l.map (·.id)):=fun l=>by
   induction l with
   |nil=>simp
   |cons a l ih=>
    rw[List.find?_cons]
    split
    ·rename_i h;simp at h;simp[h]
    ·rename_i h
     rw[ih]
     simp at h
     simp
     exact fun e=>absurd e.symm h
  unfold findN
  simp only
  rw[key,key,hids]
 have hlk:∀l∈n.links,lnkB {n with vpcs:=n.vpcs.set i w} l=true:=fun l hl=>by
  have:=hok.lk l hl
  unfold lnkB at this ⊢
  rw[hfi,hfi];exact this
 refine⟨⟨fun h=>(netOK.1 h).pe,fun h=>netOK.2 ⟨by simp;exact hok.n6,hok.n12,hvp,hri,hlk,hok.rk,h⟩⟩,fun u hu=>?_⟩
 have:=vpcOK_of (hvp u hu)
 exact⟨by have:=this.n6;omega,fun s hs=>by have:=(this.n8 s hs).1;omega⟩
def SmallSb (s:Sbn):Prop:=s.faces.length≤1000000000∧∀f∈s.faces,f.addrs.length≤1000000000
def SmallVp (v:Vpc):Prop:=v.ranges.length≤1000000000∧v.subs.length≤1000000000∧∀s∈v.subs,SmallSb s
def SmallN (n:Net):Prop:=n.vpcs.length≤1000000000∧n.links.length≤1000000000∧∀v∈n.vpcs,SmallVp v
theorem smallN_zero:SmallN Net.zero:=⟨Nat.zero_le _,Nat.zero_le _,fun v h=>by simp[Net.zero]at h⟩
theorem smallVp_ok {v:Vpc}(h:VpcOK v):SmallVp v:=⟨by have:=h.n4;omega,by have:=h.n6;omega,fun s hs=>⟨by have:=(h.n8 s hs).1;omega,fun f hf=>by have:=(h.n8 s hs).2 f hf;omega⟩⟩
theorem smallN_ok {n:Net}(h:NetOK n):SmallN n:=⟨by have:=h.n6;omega,by have:=h.n12;omega,fun v hv=>smallVp_ok (vpcOK_of (h.vp v hv))⟩
theorem makeN_small (n:Net)(id:Int):SmallN (makeN n id).1:=by
 unfold makeN
 split
 ·exact smallN_zero
 ·rename_i hc
  have hok:=netOK.1 (by simpa using hc)
  split
  ·exact smallN_zero
  ·obtain⟨a,b,c⟩:=smallN_ok hok
   refine⟨?_,b,fun v hv=>?_⟩
   ·show (insK _ _ n.vpcs).length≤_
    rw[insK_len];have:=hok.n6;omega
   ·rcases insK_mem.1 hv with rfl|hv
    ·exact⟨Nat.zero_le _,Nat.zero_le _,fun s hs=>by simp at hs⟩
    ·exact c v hv
theorem growN_small (n:Net)(id:Int)(r:Rng):SmallN (growN n id r).1:=by
 unfold growN
 split
 ·exact smallN_zero
 ·rename_i hc
  have hok:=netOK.1 (by simpa using hc)
  split
  ·exact smallN_zero
  ·split
   ·exact smallN_zero
   ·split
    ·exact smallN_zero
    ·rename_i i hi v hv hg
     split
     ·rename_i hp
      exact smallN_ok (netOK.1 ((grown_chk hok hv (by simpa using hg)).1.2 hp))
     ·exact smallN_zero
theorem joinN_small (n:Net)(a b:Int):SmallN (joinN n a b).1:=by
 unfold joinN
 split
 ·exact smallN_zero
 ·rename_i hc
  have hok:=netOK.1 (by simpa using hc)
  split
  ·exact smallN_zero
  ·obtain⟨x,y,z⟩:=smallN_ok hok
   refine⟨x,?_,z⟩
   show (insK _ _ n.links).length≤_
   rw[insK_len];have:=hok.n12;omega
theorem partN_small (n:Net)(a b:Int):SmallN (partN n a b).1:=by
 unfold partN
 split
 ·exact smallN_zero
 ·rename_i hc
  have hok:=netOK.1 (by simpa using hc)
  split
  ·exact smallN_zero
  ·obtain⟨x,y,z⟩:=smallN_ok hok
   refine⟨x,?_,z⟩
   rename_i i hi
   show (n.links.eraseIdx i).length≤_
   have:=List.length_eraseIdx_le n.links i
   omega
def SmallSt (s:Ste):Prop:=Small s.book∧SmallN s.net
theorem smallB_ok {b:Bok}(h:BookOK b):Small b:=⟨by have:=h.n8;omega,fun p hp=>by have:=h.l32 p hp;omega⟩
theorem smallSt_zero:SmallSt .zero:=⟨small_zero,smallN_zero⟩
theorem bookS_small {b:Bok}(h:BookOK b)(vs:List Vpc)(c:Cmd):Small (bookS b vs c).1:=by
 have hb:=smallB_ok h
 unfold bookS
 repeat' split
 all_goals first|exact hb|exact openR_small ..|exact nestR_small ..|exact closeR_small ..|exact passR_small ..|exact takeR_small ..|exact giveR_small ..
theorem netS_small {n:Net}(h:NetOK n)(b:Bok)(c:Cmd):SmallN (netS b n c).1:=by
 have hn:=smallN_ok h
 unfold netS
 repeat' split
 all_goals first|exact hn|exact makeN_small ..|exact joinN_small ..|exact partN_small ..
theorem setN_small {n:Net}(h:NetOK n){v:Vpc}(hv:SmallV v)(k:Nat):SmallN {n with vpcs:=n.vpcs.set k v}:=by
 obtain⟨a,b,c⟩:=smallN_ok h
 refine⟨by show (n.vpcs.set k v).length≤_;rw[List.length_set];exact a,b,fun w hw=>?_⟩
 rcases List.mem_or_eq_of_mem_set hw with hw|rfl
 ·exact c w hw
 ·exact hv
theorem innerV_small {b:Bok}{n:Net}(hb:BookOK b)(hn:NetOK n)(c:Cmd)(k:Nat)(v:Vpc):Small (innerV b n c k v).1∧SmallN (innerV b n c k v).2.1:=by
 have h1:=smallB_ok hb
 have h2:=smallN_ok hn
 unfold innerV
 repeat' split
 all_goals refine⟨?_,?_⟩
 all_goals first|exact h1|exact h2|exact takeR_small ..|exact giveR_small ..|exact growN_small ..|exact setN_small hn (dropV_small ..) _|exact setN_small hn (subV_small ..) _|exact setN_small hn (unsubV_small ..) _|exact setN_small hn (faceV_small ..) _|exact setN_small hn (moreV_small ..) _|exact setN_small hn (unfaceV_small ..) _
theorem innerS_small {b:Bok}{n:Net}(hb:BookOK b)(hn:NetOK n)(c:Cmd):Small (innerS b n c).1∧SmallN (innerS b n c).2.1:=by
 unfold innerS
 split
 ·exact⟨smallB_ok hb,smallN_ok hn⟩
 ·split
  ·exact innerV_small hb hn ..
  ·exact⟨smallB_ok hb,smallN_ok hn⟩
theorem doS_small (s:Ste)(c:Cmd):SmallSt (doS s c).1:=by
 unfold doS
 by_cases h:chkSt s=0
 ·obtain⟨hb0,hn0⟩:=chkSt_ok h
  have hb:=bookOK hb0
  have hn:=netOK.1 hn0
  rw[if_neg (by simpa using h)]
  split
  ·exact⟨smallB_ok hb,smallN_ok hn⟩
  ·unfold actS
   split
   ·exact⟨bookS_small hb ..,smallN_ok hn⟩
   ·split
    ·exact⟨smallB_ok hb,netS_small hn ..⟩
    ·split
     ·exact innerS_small hb hn c
     ·exact⟨smallB_ok hb,smallN_ok hn⟩
 ·rw[if_pos h];exact smallSt_zero
theorem SmallSt.hz {s:Ste}(h:SmallSt s):∀p∈s.book.pools,p.leases.length≤3518437208882:=fun p hp=>by have:=h.1.2 p hp;omega
def playF (s:Ste)(l:List Cmd):Ste:=l.foldl (fun s c=>(doS s c).1) s
def playA:Ste→List Cmd→List Ans
 |_,[]=>[]
 |s,c::l=>(doS s c).2.1::playA (doS s c).1 l
def playS (l:List Cmd):Ste × List Ans × Int:=if 200 < l.length then (.zero,[],2)else (playF .zero l,playA .zero l,0)
theorem playF_snoc (s:Ste)(l:List Cmd)(c:Cmd):playF s (l++[c])=(doS (playF s l) c).1:=by
 unfold playF;rw[List.foldl_append];rfl
theorem playA_snoc:∀(l:List Cmd) (s:Ste) (c:Cmd),playA s (l++[c])=playA s l++[(doS (playF s l) c).2.1]
 |[],_,_=>rfl
 |d::l,s,c=>by
  show _::playA _ (l++[c])=_
  rw[playA_snoc l];rfl
theorem playA_len:∀(l:List Cmd) (s:Ste),(playA s l).length=l.length
 |[],_=>rfl
 |_::l,s=>by show (playA _ l).length+1=_;rw[playA_len l];rfl
theorem playF_small (l:List Cmd):SmallSt (playF .zero l):=by
 rcases List.eq_nil_or_concat l with rfl|⟨l,c,rfl⟩
 ·exact smallSt_zero
 ·rw[List.concat_eq_append,playF_snoc];exact doS_small ..
abbrev Ent:=List Int × Int
theorem upE_new:∀{m:List Ent}{k:List Int}{v:Int},(∀x∈m,x.1≠k)→upE m k v=m++[(k,v)]
 |[],k,v,_=>rfl
 |(k',x)::m,k,v,h=>by
  unfold upE
  rw[if_neg (h _ (List.mem_cons_self ..)),upE_new fun y hy=>h y (List.mem_cons_of_mem _ hy)]
  rfl
def upf (m:List Ent)(x:Ent):List Ent:=upE m x.1 x.2
theorem upf_all:∀(l m:List Ent),(m++l).Pairwise (fun a b=>a.1≠b.1)→l.foldl upf m=m++l
 |[],m,_=>by simp
 |x::l,m,h=>by
  rw[List.foldl_cons]
  have h1:=(List.pairwise_append.1 h).2.2
  have e:upf m x=m++[x]:=upE_new fun y hy=>h1 y hy x (List.mem_cons_self ..)
  rw[e,upf_all l (m++[x]) (by simpa using h)]
  simp
def usPl (p:Pol):List Ent:=(p.leases.filter fun l=>l.kind==1).map fun l=>([l.at_.at_,l.at_.len,p.id],l.owner)
def usLst (b:Bok):List Ent:=b.pools.flatMap usPl
theorem usP_fold (p:Pol)(m:List Ent):usP m p=(usPl p).foldl upf m:=by
 unfold usP usPl
 generalize p.leases=l
 induction l generalizing m with
 |nil=>rfl
 |cons a l ih=>
  rw[List.foldl_cons,ih]
  unfold usL
  by_cases h:a.kind=1
  ·rw[if_pos h,List.filter_cons_of_pos (by simpa using h)];rfl
  ·rw[if_neg h,List.filter_cons_of_neg (by simpa using h)]
theorem usE_fold (b:Bok):usE b=(usLst b).foldl upf []:=by
 unfold usE usLst
 have key:∀(l:List Pol) (m:List Ent),l.foldl usP m=(l.flatMap usPl).foldl upf m:=by
  intro l
  induction l with
  |nil=>intro m;rfl
  |cons p l ih=>intro m;rw[List.foldl_cons,ih,List.flatMap_cons,List.foldl_append,usP_fold]
 exact key _ _
theorem usLst_keys {b:Bok}(h:BookOK b):(usLst b).Pairwise fun x y=>x.1≠y.1:=by
 unfold usLst
 rw[List.pairwise_flatMap]
 constructor
 ·intro p hp
  have hl:=lease_rise (h.mem p hp).2.1
  unfold usPl
  rw[List.pairwise_map]
  exact(hl.filter _).imp fun {a b} hab e=>by simp at e;omega
 ·refine h.rise.imp fun {p q} hpq x hx y hy e=>?_
  unfold usPl at hx hy
  obtain⟨l,-,rfl⟩:=List.mem_map.1 hx
  obtain⟨l',-,rfl⟩:=List.mem_map.1 hy
  simp at e;omega
theorem usE_eq {b:Bok}(h:BookOK b):usE b=usLst b:=by
 rw[usE_fold,upf_all _ [] (by simpa using usLst_keys h)]
 rfl
theorem lkE_mem:∀{l:List Ent},l.Pairwise (fun x y=>x.1≠y.1)→∀{k:List Int}{o:Int},lkE l k=some o↔(k,o)∈l
 |[],_,k,o=>by simp[lkE]
 |(k',x)::l,h,k,o=>by
  have h':=List.pairwise_cons.1 h
  unfold lkE
  by_cases e:k'=k
  ·subst e
   rw[if_pos rfl]
   constructor
   ·intro hx;cases hx;exact List.mem_cons_self ..
   ·intro hx
    rcases List.mem_cons.1 hx with hx|hx
    ·cases hx;rfl
    ·exact absurd rfl (h'.1 (k',o) hx)
  ·rw[if_neg e,lkE_mem h'.2]
   constructor
   ·exact fun hx=>List.mem_cons_of_mem _ hx
   ·intro hx
    rcases List.mem_cons.1 hx with hx|hx
    ·cases hx;exact absurd rfl e
    ·exact hx
theorem us_mem {b:Bok}{k:List Int}{o:Int}:(k,o)∈usLst b↔∃p∈b.pools,∃l∈p.leases,l.kind=1∧k=[l.at_.at_,l.at_.len,p.id]∧o=l.owner:=by
 unfold usLst usPl
 simp only[List.mem_flatMap,List.mem_map,List.mem_filter,Prod.mk.injEq,beq_iff_eq]
 constructor
 ·rintro⟨p,hp,l,⟨hl,hk⟩,rfl,rfl⟩;exact⟨p,hp,l,hl,hk,rfl,rfl⟩
 ·rintro⟨p,hp,l,hl,hk,rfl,rfl⟩;exact⟨p,hp,l,⟨hl,hk⟩,rfl,rfl⟩
theorem sub_full {α:Type}[DecidableEq α]{l m:List α}(hl:l.Nodup)(hm:m.Nodup)(hs:∀x∈l,x∈m):l.length≤m.length∧(l.length=m.length↔∀x∈m,x∈l):=by
 have h1:=hl.length_le_of_subset hs
 refine⟨h1,fun h x hx=>?_,fun h=>Nat.le_antisymm h1 (hm.length_le_of_subset h)⟩
 refine Classical.byContradiction fun hn=>?_
 have h2:(x::l).Nodup:=List.nodup_cons.2 ⟨hn,hl⟩
 have h3:=h2.length_le_of_subset (fun y hy=>by
  rcases List.mem_cons.1 hy with rfl|hy
  ·exact hx
  ·exact hs y hy:(x::l) ⊆ m)
 simp at h3;omega
def keysA (vs:List Vpc):List (List Int):=vs.flatMap fun v=>v.ranges.map fun r=>[r.at_.at_,r.at_.len,r.pool]
theorem keysA_len (vs:List Vpc):(keysA vs).length=nRng vs:=by
 unfold keysA nRng
 rw[List.length_flatMap]
 simp
theorem rgOK_iff {E:List Ent}{id:Int}{r:Rng}(hid:id≠0):rgOK E id r=true↔lkE E [r.at_.at_,r.at_.len,r.pool]=some id:=by
 unfold rgOK
 cases h:lkE E [r.at_.at_,r.at_.len,r.pool]with
 |none=>simp;omega
 |some x=>simp
theorem keysA_nodup {E:List Ent}{vs:List Vpc}(hr:vs.Pairwise fun a b=>a.id < b.id)(hv:∀v∈vs,v.id≠0∧v.ranges.Pairwise fun a b=>a.at_.at_ < b.at_.at_)(hok:rngsOK E vs=true):(keysA vs).Nodup:=by
 unfold keysA List.Nodup
 rw[List.pairwise_flatMap]
 have hlk:∀v∈vs,∀r∈v.ranges,lkE E [r.at_.at_,r.at_.len,r.pool]=some v.id:=fun v hvm r hrm=>
  (rgOK_iff (hv v hvm).1).1 (List.all_eq_true.1 (List.all_eq_true.1 hok v hvm) r hrm)
 constructor
 ·intro v hvm
  rw[List.pairwise_map]
  exact(hv v hvm).2.imp fun {a b} hab e=>by simp at e;omega
 ·rw[List.pairwise_iff_getElem]at hr ⊢
  intro i j hi hj hij x hx y hy e
  obtain⟨r,hrm,rfl⟩:=List.mem_map.1 hx
  obtain⟨r',hrm',rfl⟩:=List.mem_map.1 hy
  have h1:=hlk _ (List.getElem_mem hi) r hrm
  have h2:=hlk _ (List.getElem_mem hj) r' hrm'
  rw[e,h2]at h1
  have:=hr i j hi hj hij
  simp at h1;omega
theorem count_iff {E:List Ent}{vs:List Vpc}(hE:E.Pairwise fun x y=>x.1≠y.1)(hr:vs.Pairwise fun a b=>a.id < b.id)(hv:∀v∈vs,v.id≠0∧v.ranges.Pairwise fun a b=>a.at_.at_ < b.at_.at_)(hok:rngsOK E vs=true):
 nRng vs=(E.countP fun kv=>heldB vs kv.2)↔∀kv∈E,heldB vs kv.2=true→kv.1∈keysA vs:=by
 have hA:=keysA_nodup hr hv hok
 have hB:((E.filter fun kv=>heldB vs kv.2).map (·.1)).Nodup:=by
  unfold List.Nodup
  rw[List.pairwise_map]
  exact(hE.filter _)
 have hs:∀x∈keysA vs,x∈(E.filter fun kv=>heldB vs kv.2).map (·.1):=by
  intro x hx
  obtain⟨v,hvm,hx⟩:=List.mem_flatMap.1 hx
  obtain⟨r,hrm,rfl⟩:=List.mem_map.1 hx
  have h1:=(rgOK_iff (hv v hvm).1).1 (List.all_eq_true.1 (List.all_eq_true.1 hok v hvm) r hrm)
  have h2:=(lkE_mem hE).1 h1
  exact List.mem_map.2 ⟨_,List.mem_filter.2 ⟨h2,List.any_eq_true.2 ⟨v,hvm,by simp⟩⟩,rfl⟩
 have h:=(sub_full hA hB hs).2
 rw[keysA_len,List.length_map,←List.countP_eq_length_filter]at h
 rw[h]
 constructor
 ·intro h kv hkv hh
  exact h _ (List.mem_map.2 ⟨kv,List.mem_filter.2 ⟨hkv,hh⟩,rfl⟩)
 ·intro h x hx
  obtain⟨kv,hkv,rfl⟩:=List.mem_map.1 hx
  obtain⟨h1,h2⟩:=List.mem_filter.1 hkv
  exact h kv h1 h2
theorem pool_uniq {b:Bok}(h:BookOK b){p q:Pol}(hp:p∈b.pools)(hq:q∈b.pools)(e:p.id=q.id):p=q:=by
 obtain⟨i,hi,rfl⟩:=List.getElem_of_mem hp
 obtain⟨j,hj,rfl⟩:=List.getElem_of_mem hq
 have hr:=List.pairwise_iff_getElem.1 h.rise
 rcases Nat.lt_trichotomy i j with h1|h1|h1
 ·have:=hr i j hi hj h1;omega
 ·subst h1;rfl
 ·have:=hr j i hj hi h1;omega
theorem lk_lease {b:Bok}(h:BookOK b)(pid:Int)(at_:Pfx):lkE (usE b) [at_.at_,at_.len,pid]=(leaseAtR b pid at_).map (·.owner):=by
 rw[usE_eq h]
 unfold leaseAtR poolOf
 cases hf:b.pools.find? fun p=>p.id==pid with
 |none=>
  simp only[Option.map_none]
  cases hk:lkE (usLst b) [at_.at_,at_.len,pid]with
  |none=>rfl
  |some o=>
   obtain⟨p,hp,l,hl,hk1,he,-⟩:=us_mem.1 ((lkE_mem (usLst_keys h)).1 hk)
   have:=List.find?_eq_none.1 hf p hp
   simp at he this
   omega
 |some p=>
  have hpm:=List.mem_of_find?_eq_some hf
  have hpi:p.id=pid:=by have:=List.find?_some hf;simpa using this
  simp only
  cases hl:p.leases.find? (giveB at_)with
  |none=>
   simp only[Option.map_none]
   cases hk:lkE (usLst b) [at_.at_,at_.len,pid]with
   |none=>rfl
   |some o=>
    obtain⟨q,hq,l,hlm,hk1,he,-⟩:=us_mem.1 ((lkE_mem (usLst_keys h)).1 hk)
    simp at he
    obtain rfl:=pool_uniq h hpm hq (by omega)
    have:=List.find?_eq_none.1 hl l hlm
    unfold giveB at this
    exfalso
    apply this
    have:l.at_=at_:=by
     have h1:=he.1
     have h2:=he.2.1
     cases hla:l.at_ with
     |mk x y=>
      cases at_ with
      |mk x' y'=>rw[hla]at h1 h2;simp only at h1 h2;rw[h1,h2]
    simp[hk1,this]
  |some l=>
   simp only[Option.map_some]
   have hlm:=List.mem_of_find?_eq_some hl
   have hg:=List.find?_some hl
   unfold giveB at hg
   rw[Bool.and_eq_true]at hg
   have g1:l.kind=1:=by simpa using hg.1
   have g2:l.at_=at_:=of_decide_eq_true hg.2
   rw[lkE_mem (usLst_keys h)]
   exact us_mem.2 ⟨p,hpm,l,hlm,g1,by rw[g2,hpi],rfl⟩
def lsB (b:Bok)(id:Int)(r:Rng):Bool:=match leaseAtR b r.pool r.at_ with|some l=>l.owner==id|none=>false
def usB (vs:List Vpc)(pid:Int)(l:Lse):Bool:=!(l.kind==1)||(match vs.find? (·.id==l.owner)with|some v=>v.ranges.any fun r=>decide (r=(⟨l.at_,pid⟩:Rng))|none=>true)
def refA (s:Ste):Bool:=s.net.vpcs.all fun v=>v.ranges.all (lsB s.book v.id)
def refB (s:Ste):Bool:=s.book.pools.all fun p=>p.leases.all (usB s.net.vpcs p.id)
theorem refA_eq {s:Ste}(h:BookOK s.book)(hv:∀v∈s.net.vpcs,v.id≠0):rngsOK (usE s.book) s.net.vpcs=refA s:=by
 unfold rngsOK refA
 have key:∀v∈s.net.vpcs,∀r∈v.ranges,rgOK (usE s.book) v.id r=lsB s.book v.id r:=by
  intro v hvm r _
  unfold rgOK lsB
  rw[lk_lease h]
  cases leaseAtR s.book r.pool r.at_ with
  |none=>have:=hv v hvm;simp;omega
  |some l=>simp
 rw[Bool.eq_iff_iff,List.all_eq_true,List.all_eq_true]
 refine forall_congr' fun v=>forall_congr' fun hvm=>?_
 rw[List.all_eq_true,List.all_eq_true]
 exact forall_congr' fun r=>forall_congr' fun hrm=>by rw[key v hvm r hrm]
theorem vpc_uniq {vs:List Vpc}(hr:vs.Pairwise fun a b=>a.id < b.id){v w:Vpc}(hv:v∈vs)(hw:w∈vs)(e:v.id=w.id):v=w:=by
 obtain⟨i,hi,rfl⟩:=List.getElem_of_mem hv
 obtain⟨j,hj,rfl⟩:=List.getElem_of_mem hw
 have hr:=List.pairwise_iff_getElem.1 hr
 rcases Nat.lt_trichotomy i j with h1|h1|h1
 ·have:=hr i j hi hj h1;omega
 ·subst h1;rfl
 ·have:=hr j i hj hi h1;omega
theorem refB_eq {s:Ste}(h:BookOK s.book)(hr:s.net.vpcs.Pairwise fun a b=>a.id < b.id)(hv:∀v∈s.net.vpcs,v.id≠0)(hok:rngsOK (usE s.book) s.net.vpcs=true):
 (∀kv∈usE s.book,heldB s.net.vpcs kv.2=true→kv.1∈keysA s.net.vpcs)↔refB s=true:=by
 rw[usE_eq h]at hok ⊢
 unfold refB
 simp only[List.all_eq_true]
 constructor
 ·intro hk p hp l hl
  unfold usB
  by_cases hk1:l.kind=1
  ·have hm:=us_mem.2 ⟨p,hp,l,hl,hk1,rfl,rfl⟩
   cases hf:s.net.vpcs.find? (·.id==l.owner)with
   |none=>simp
   |some v=>
    have hvm:=List.mem_of_find?_eq_some hf
    have hvi:v.id=l.owner:=by have:=List.find?_some hf;simpa using this
    have hka:=hk _ hm (List.any_eq_true.2 ⟨v,hvm,by simpa using hvi⟩)
    obtain⟨w,hwm,hx⟩:=List.mem_flatMap.1 hka
    obtain⟨r,hrm,he⟩:=List.mem_map.1 hx
    have h1:=(rgOK_iff (hv w hwm)).1 (List.all_eq_true.1 (List.all_eq_true.1 hok w hwm) r hrm)
    have h2:=(lkE_mem (usLst_keys h)).2 hm
    simp only at he
    rw[he,h2]at h1
    have hwv:w=v:=vpc_uniq hr hwm hvm (by simp at h1;omega)
    subst hwv
    have:r=⟨l.at_,p.id⟩:=by
     cases r with
     |mk a pl=>
      cases a
      cases hla:l.at_
      simp_all
    simp only[hk1,beq_self_eq_true,Bool.not_true,Bool.false_or]
    exact List.any_eq_true.2 ⟨r,hrm,by simpa using this⟩
  ·simp[hk1]
 ·rintro hk ⟨k,o⟩ hkv hh
  obtain⟨p,hp,l,hl,hk1,rfl,rfl⟩:=us_mem.1 hkv
  have h1:=hk p hp l hl
  unfold usB at h1
  simp only[hk1,beq_self_eq_true,Bool.not_true,Bool.false_or]at h1
  obtain⟨v,hvm,hvi⟩:=List.any_eq_true.1 hh
  cases hf:s.net.vpcs.find? (·.id==l.owner)with
  |none=>exact absurd hvi (by simpa using List.find?_eq_none.1 hf v hvm)
  |some w=>
   rw[hf]at h1
   obtain⟨r,hrm,he⟩:=List.any_eq_true.1 h1
   have he:r=⟨l.at_,p.id⟩:=by simpa using he
   exact List.mem_flatMap.2 ⟨w,List.mem_of_find?_eq_some hf,List.mem_map.2 ⟨r,hrm,by rw[he]⟩⟩
theorem chkSt_ref (s:Ste):chkSt s=if chkBk s.book≠0 then chkBk s.book else if chkT s.net≠0 then chkT s.net else if (refA s&&refB s)=true then 0 else 1:=by
 unfold chkSt
 by_cases h1:chkBk s.book=0
 ·have n1:¬chkBk s.book≠0:=fun h=>h h1
  by_cases h2:chkT s.net=0
  ·have n2:¬chkT s.net≠0:=fun h=>h h2
   rw[if_neg n1,if_neg n1,if_neg n2,if_neg n2]
   have hb:=bookOK h1
   have hn:=netOK.1 h2
   have hv:∀v∈s.net.vpcs,v.id≠0:=fun v hvm e=>by
    have:=(vpcOK_of (hn.vp v hvm)).id
    unfold idOK at this
    rw[e]at this
    simp at this
   have hv2:∀v∈s.net.vpcs,v.id≠0∧v.ranges.Pairwise fun a b=>a.at_.at_ < b.at_.at_:=fun v hvm=>⟨hv v hvm,(vpcOK_of (hn.vp v hvm)).rr⟩
   rw[←refA_eq hb hv]
   cases hok:rngsOK (usE s.book) s.net.vpcs with
   |false=>simp
   |true=>
    have hc:=count_iff (E:=usE s.book) (by rw[usE_eq hb];exact usLst_keys hb) hn.rise hv2 hok
    rw[refB_eq hb hn.rise hv hok]at hc
    simp only[Bool.true_and,decide_eq_true_eq]
    by_cases h3:refB s=true
    ·rw[if_pos (hc.2 h3),if_pos h3]
    ·rw[if_neg (fun e=>h3 (hc.1 e)),if_neg h3]
  ·rw[if_neg n1,if_neg n1,if_pos h2,if_pos h2]
 ·rw[if_pos h1,if_pos h1]
structure SameAct (a b:Ste × Ans):Prop where
 err:a.2.err=b.2.err
 eq:a.2.err=0→a=b
theorem SameAct.refl (a:Ste × Ans):SameAct a a:=⟨rfl,fun _=>rfl⟩
theorem RealC.box_le {X:Cfg}{e:Env}{h:List Chunk}{a:Act}{w:World}{c:Cx}(hr:RealC X (mkF e h) a w c){k T:Nat}{cells cells':List PV}(hk:hatL h k= .box T cells)(hlt:k < h.length)(hle:ples cells cells')(h1:∀d∈cells',d.one=true):
 RealC X (mkF e (setC h k (.box T cells'))) a w c:=by
 have hh:∀k',(mkF e (setC h k (.box T cells'))).heap k'=if k'=k then .box T cells' else (mkF e h).heap k':=fun k'=>hatL_setC (Nat.le_of_lt hlt) k'
 have hb:∀k',c.block k' ((mkF e (setC h k (.box T cells'))).heap k')=c.block k' ((mkF e h).heap k'):=by
  intro k'
  rw[hh]
  split
  ·rename_i he;subst he;show _=c.block k' (hatL h k');rw[hk];rfl
  ·rfl
 refine⟨hr.size,hr.defers,hr.ext,hr.inv,hr.fresh,fun b=>?_,fun k' b hkb=>?_,fun k' k'' b h1 h2=>?_,hr.env,fun k'=>?_,hr.lent⟩
 ·rw[hr.mu b]
  simp only[hb]
 ·rw[hb]at hkb;exact hr.new k' b hkb
 ·rw[hb]at h1 h2;exact hr.apart k' k'' b h1 h2
 ·rw[hh]
  split
  ·rename_i he
   subst he
   have hck:=hr.chunk k'
   rw[show (mkF e h).heap k'=_ from hk]at hck
   cases hck with
   |box _ _ b vs hb hhp hrp hone=>exact .box T cells' b vs hb hhp (ples_rep hle hrp) h1
  ·exact hr.chunk k'
theorem weak_box_le {P:Program}{n m:Nat}{e:Env}{h:List Chunk}(k:Nat){T:Nat}(ds ds':List D)(hk:hatL h k= .box T (ds.map .d))(hlt:k < h.length)(hle:dles ds ds')(h1:ds'.all D.one=true):Weak P n m e h e (setC h k (.box T (ds'.map .d))):=
 fun X _ _ _ a w ⟨c,hc⟩=>⟨c,hc.box_le hk hlt (ples_d hle) fun d hd=>by
  obtain⟨x,hx,rfl⟩:=List.mem_map.1 hd
  exact List.all_eq_true.1 h1 x hx⟩
theorem take_st {l:List Cmd}{k:Nat}{c:Cmd}(h:l[k]? =some c):playF .zero (l.take (k+1))=(doS (playF .zero (l.take k)) c).1∧playA .zero (l.take (k+1))=playA .zero (l.take k)++[(doS (playF .zero (l.take k)) c).2.1]:=by
 rw[take_snoc h,playF_snoc,playA_snoc];exact⟨rfl,rfl⟩
theorem play_p (l:List Cmd):PSpec Tryz.prog 14 [.sl 10 (l.map encC)] (.tup [.agg (encSt (playS l).1),.sl 4 ((playS l).2.1.map encAn),.v (.int .i64 (playS l).2.2)]):=by
 unfold playS
 by_cases h:200 < l.length
 ·rw[if_pos h]
  have e1:decide ((l.length:Int)>200)=true:=by simp;omega
  replace h:=Lib.hid h
  refine pj Tryz.func14 Tryz.ntmps14 Tryz.results14 ?_
  refine wk1 ?_
  exact dz
 ·rw[if_neg h]
  have e1:decide ((l.length:Int)>200)=false:=by simp;omega
  have hle:l.length≤200:=by omega
  clear h
  refine pj Tryz.func14 Tryz.ntmps14 Tryz.results14 ?_
  refine wk1 ?_
  refine loopL tab_ok mixed l (fun _=>True) (fun k=>[(18,.d (.v (.int .i64 k))),(17,.d (.v (.int .i64 l.length))),(16,.d (.sl 10 (l.map encC))),(6,.own 2 k),(5,.ptr 1 0),(2,.ptr 0 0)])
   (fun k=>[.box 30 [.d (.v (.int .i64 0)),.d (.v (.slice none 0 0)),.d (.v (.slice none 0 0)),.d (.v (.slice none 0 0))],.box 30 ((encSt (playF .zero (l.take k))).map .d),.row 39 4 k (dRows ((playA .zero (l.take k)).map encAn))]) trivial ?_ ?_ ?_
  ·refine(weak_adopt (by simp) 6 39 4 rfl).trans ((weak_box_le 1 [.v (.int .i64 0),.v (.slice none 0 0),.v (.slice none 0 0),.v (.slice none 0 0)] (encSt .zero) rfl (by simp) ⟨DLe.refl _,DLe.nil _,DLe.nil _,DLe.nil _,trivial⟩ rfl).trans ?_)
   exact wf
  ·intro k c hc hk _ C hC
   have hkI:(k:Int) < (l.length:Int):=by omega
   have hwr:=wi k (by omega)
   have hsm:=playF_small (l.take k)
   have hdo:=do_p (playF .zero (l.take k)) c hsm.hz
   obtain⟨hs1,hs2⟩:=take_st hc
   have hpl:=playA_len (l.take k) .zero
   have hlt:(List.take k l).length=k:=by rw[List.length_take];omega
   rw[hlt]at hpl
   generalize doS (playF .zero (l.take k)) c=R at*
   generalize playF .zero (l.take k)=S at*
   generalize playA .zero (l.take k)=A at*
   replace hs1:=Lib.hid hs1
   replace hs2:=Lib.hid hs2
   replace hsm:=Lib.hid hsm
   refine wk1 ?_
   refine hC _ _ trivial ?_
   rw[hs1.out,hs2.out]
   exact wf (hh:=by rw[List.map_append,List.map_cons,List.map_nil];rfl)
  ·intro _ C
   rw[List.take_length]
   first|exact wk0|(refine wk1 ?_;exact dz)
def c0 (op a b c:Int):Cmd:=⟨op,a,b,c,⟨0,0⟩,⟨0,0,0,0⟩⟩
def planS:List Cmd:=[⟨1,7,0,0,⟨256,8⟩,looseR⟩,c0 7 1 0 0,c0 7 2 0 0,c0 8 1 7 10,c0 8 2 7 0,c0 15 2 1 0,⟨10,1,4,0,⟨256,14⟩,⟨0,0,0,0⟩⟩,c0 12 1 4 9,⟨9,2,0,0,⟨320,12⟩,⟨0,0,0,0⟩⟩,⟨6,7,0,0,⟨256,10⟩,⟨0,0,0,0⟩⟩]
theorem plan_p:PSpec Tryz.prog 31 [] (.sl 10 (planS.map encC)):=by
 have h:=loose_p
 refine pj Tryz.func31 Tryz.ntmps31 Tryz.results31 ?_
 first|exact wk0|(refine wk1 ?_;exact dz)
def stF:Ste:=⟨⟨0,[⟨7,0,⟨256,8⟩,⟨8,16,12,3⟩,[⟨⟨256,10⟩,1,1,0⟩,⟨⟨320,12⟩,3,0,3⟩]⟩]⟩,⟨[⟨1,[⟨⟨256,10⟩,7⟩],[⟨4,⟨256,14⟩,[⟨9,[257]⟩]⟩]⟩,⟨2,[],[]⟩],[⟨1,2⟩]⟩⟩
def anF:List Ans:=[.er 0,.er 0,.er 0,⟨0,⟨256,10⟩,0⟩,⟨0,⟨320,12⟩,0⟩,.er 0,.er 0,⟨0,⟨0,0⟩,257⟩,.er 0,.er 9]
theorem plan_end:playS planS=(stF,anF,0):=by kernel_rfl
theorem stF_ok:chkSt stF=0:=by kernel_rfl
theorem siteBegun_p:PSpec Tryz.prog 10 [] (.v (.bool true)):=by
 have h1:=plan_p
 have h2:=play_p planS
 have h3:=scheck_p stF (by simp[stF])
 rw[stF_ok]at h3
 rw[plan_end]at h2
 generalize planS.map encC=L at*
 simp only[stF,anF,Ans.er,encSt,encPol,encV,encK,encAn,encL,encG,encN,encF,encA,List.map_cons,List.map_nil]at h2 h3
 refine pj Tryz.func10 Tryz.ntmps10 Tryz.results10 ?_
 refine wk1 ?_
 simp only[List.append_eq,List.cons_append,List.nil_append]
 exact wk0
theorem szI_sub {a l m:Int}(h:rightB a l=true)(h1:l≤m)(h2:m≤16):insQ ⟨a,m⟩ ⟨a,l⟩=true:=by
 obtain⟨g1,g2,g3,g4,g5⟩:=right_bd h
 have hb:=Pfx.hi_bd (p:=⟨a,l⟩) h
 obtain⟨k,hk,-⟩:=szI_dvd g1 h1 h2
 exact insQ_iff.2 ⟨right_of (a:=a) (l:=m) (by omega) h2 (by omega) (by omega) (Int.emod_eq_zero_of_dvd (Int.dvd_trans ⟨k,hk⟩ (Int.dvd_of_emod_eq_zero g5))),h,h1,Int.le_refl _,hb.1⟩
theorem fit_law {root:Pfx}{us:List Pfx}(h:SpaceOK root us){size:Int}(hr:root.len≤size∧size≤16):
 ((fitS root us size).2.1=false∧∀p:Pfx,p.len=size→insQ p root=true→freeP us p=false)∨
 ((fitS root us size).2.1=true∧(fitS root us size).1.len=size∧insQ (fitS root us size).1 root=true∧freeP us (fitS root us size).1=true∧∀p:Pfx,p.len=size→insQ p root=true→freeP us p=true→(fitS root us size).1.at_≤p.at_):=by
 have hck:=chkS_ok.2 h
 unfold fitS
 rw[if_pos hck,if_neg (by omega)]
 have hin:∀p:Pfx,p.len=size→insQ p root=true→freeP us p=true→∃q∈holesS root us,insQ p q=true∧q.len≤size:=by
  intro p hp h1 h2
  obtain⟨q,hq,hi⟩:=holesS_all h h1 h2
  have:=(insQ_iff.1 hi).2.2.1
  exact⟨q,hq,hi,by omega⟩
 cases hf:(holesS root us).find? (fun q=>decide (q.len≤size))with
 |none=>
  refine .inl ⟨rfl,fun p hp h1=>?_⟩
  cases h2:freeP us p with
  |false=>rfl
  |true=>
   obtain⟨q,hq,hi,hl⟩:=hin p hp h1 h2
   have:=List.find?_eq_none.1 hf q hq
   simp at this
   omega
 |some q=>
  have hql:q.len≤size:=by simpa using List.find?_some hf
  have hqm:=List.mem_of_find?_eq_some hf
  obtain⟨k1,k2⟩:=holesS_ins h hqm
  have hsub:insQ ⟨q.at_,size⟩ q=true:=szI_sub (insQ_iff.1 k1).1 hql hr.2
  refine .inr ⟨rfl,rfl,insQ_trans hsub k1,free_sub hsub k2,fun p hp h1 h2=>?_⟩
  obtain⟨q',hq',hi',hl'⟩:=hin p hp h1 h2
  have hpq:=(insQ_iff.1 hi').2.2.2
  obtain⟨pre,post,e,hpre⟩:=List.find?_eq_some_iff_append.1 hf|>.2
  have hsrt:=holesS_sorted h
  rw[e]at hsrt hq'
  rcases List.mem_append.1 hq' with hq'|hq'
  ·have:=hpre q' hq'
   simp at this
   omega
  ·rcases List.mem_cons.1 hq' with rfl|hq'
   ·exact hpq.1
   ·have:=(List.pairwise_cons.1 (List.pairwise_append.1 hsrt).2.1).1 q' hq'
    have:=Pfx.hi_bd (insQ_iff.1 k1).1
    unfold Apart at*
    show q.at_≤p.at_
    omega
theorem rule_bd {r:Rul}{len:Int}(h:ruleOK r len=true):len≤r.min∧r.min≤r.usual∧r.usual≤r.max∧r.max≤16∧0≤r.cool∧r.cool≤1024:=by
 unfold ruleOK at h
 simp[sortedI]at h
 omega
theorem firstOK_iff:∀(l:List Pol) (last:Int),firstOK last l=true↔Rise l∧∀p∈l,last < p.id∧idOKB p.id=true∧chkS p.root (usedP p)=0∧ruleOK p.rule p.root.len=true
 |[],last=>by simp[firstOK,Rise]
 |p::l,last=>by
  have ih:=firstOK_iff l p.id
  simp only[firstOK,Bool.and_eq_true,decide_eq_true_eq,beq_iff_eq,ih]
  unfold Rise
  rw[List.pairwise_cons]
  simp only[List.mem_cons,forall_eq_or_imp]
  constructor
  ·rintro⟨⟨a,b,c,d⟩,e,f⟩
   exact⟨⟨fun q hq=>(f q hq).1,e⟩,⟨b,a,c,d⟩,fun q hq=>⟨by have:=(f q hq).1;omega,(f q hq).2⟩⟩
  ·rintro⟨⟨e,f⟩,⟨b,a,c,d⟩,g⟩
   exact⟨⟨a,b,c,d⟩,f,fun q hq=>⟨e q hq,(g q hq).2⟩⟩
theorem secondOK_iff (b:Bok):∀(l:List Pol) (roots:List Pfx),secondOK b l roots=true↔(∀p∈l,upOK b b.pools.length p=true∧p.leases.all (leaseOK b p)=true)∧(∀p∈l,p.up=0→∀r∈roots,p.root.meets r=false)∧(l.filter (fun p=>p.up==0)).Pairwise (fun p q=>q.root.meets p.root=false)
 |[],roots=>by simp[secondOK]
 |p::l,roots=>by
  unfold secondOK
  by_cases hu:p.up=0
  ·have hb:(p.up==0)=true:=by simpa using hu
   rw[if_pos hb,List.filter_cons_of_pos (by simpa using hu),List.pairwise_cons]
   simp only[Bool.and_eq_true,secondOK_iff b l,List.mem_cons,forall_eq_or_imp,List.mem_append,List.mem_filter,Bool.not_eq_true',List.any_eq_false]
   constructor
   ·rintro⟨a,c,d,e,f⟩
    exact⟨⟨a,d⟩,⟨fun _ r hr=>by simpa using c r hr,fun q hq h0 r hr=>e q hq h0 r (.inl hr)⟩,fun q hq=>e q hq.1 (by simpa using hq.2) p.root (.inr (by simp)),f⟩
   ·rintro⟨⟨a,d⟩,⟨c,e⟩,g,f⟩
    refine⟨a,fun r hr=>by simp[c hu r hr],d,fun q hq h0 r hr=>?_,f⟩
    rcases hr with hr|hr
    ·exact e q hq h0 r hr
    ·simp at hr;subst hr;exact g q ⟨hq,by simpa using h0⟩
  ·have hb:¬(p.up==0)=true:=by simpa using hu
   rw[if_neg hb,List.filter_cons_of_neg (by simpa using hu)]
   simp only[Bool.and_eq_true,secondOK_iff b l,List.mem_cons,forall_eq_or_imp]
   constructor
   ·rintro⟨a,d,e,f⟩
    exact⟨⟨a,d⟩,⟨fun h=>absurd h hu,e⟩,f⟩
   ·rintro⟨⟨a,d⟩,⟨_,e⟩,f⟩
    exact⟨a,d,e,f⟩
structure BookP (b:Bok):Prop where
 n8:b.pools.length≤8
 tick:0≤b.tick∧b.tick≤1073741824
 rise:Rise b.pools
 mem:∀p∈b.pools,idOKB p.id=true∧chkS p.root (usedP p)=0∧ruleOK p.rule p.root.len=true
 up:∀p∈b.pools,upOK b b.pools.length p=true
 lease:∀p∈b.pools,∀l∈p.leases,leaseOK b p l=true
 tops:(b.pools.filter (fun p=>p.up==0)).Pairwise (fun p q=>q.root.meets p.root=false)
theorem idOK_bd {n:Int}(h:idOKB n=true):1≤n∧n≤65536:=by simpa[idOKB]using h
theorem bookP {b:Bok}:chkBk b=0↔BookP b:=by
 unfold chkBk
 constructor
 ·intro h
  split at h
  ·cases h
  ·rename_i h8
   split at h
   ·cases h
   ·rename_i ht
    split at h
    ·rename_i hf
     rw[Bool.and_eq_true,firstOK_iff,secondOK_iff]at hf
     obtain⟨⟨h1,h2⟩,h3,h4,h5⟩:=hf
     exact⟨by omega,by omega,h1,fun p hp=>(h2 p hp).2,fun p hp=>(h3 p hp).1,fun p hp l hl=>List.all_eq_true.1 (h3 p hp).2 l hl,h5⟩
    ·cases h
 ·intro h
  have:=h.n8
  have:=h.tick
  rw[if_neg (by omega),if_neg (by omega),if_pos]
  rw[Bool.and_eq_true,firstOK_iff,secondOK_iff]
  exact⟨⟨h.rise,fun p hp=>⟨by have:=idOK_bd (h.mem p hp).1;omega,h.mem p hp⟩⟩,fun p hp=>⟨h.up p hp,List.all_eq_true.2 (h.lease p hp)⟩,fun _ _ _ r hr=>by simp at hr,h.tops⟩
theorem poolOf_map {b:Bok}{t:Int}{f:Pol→Pol}(hf:∀p∈b.pools,(f p).id=p.id)(id:Int):poolOf ⟨t,b.pools.map f⟩ id=(poolOf b id).map f:=by
 unfold poolOf
 simp only
 rw[List.find?_map]
 congr 1
 generalize b.pools=l at hf
 induction l with
 |nil=>rfl
 |cons p l ih=>
  rw[List.find?_cons,List.find?_cons]
  have:=hf p (by simp)
  simp only[Function.comp,this]
  split
  ·rfl
  ·exact ih fun q hq=>hf q (by simp[hq])
structure MapP (b:Bok)(t:Int)(f:Pol→Pol):Prop where
 tick:0≤t∧t≤1073741824
 id:∀p∈b.pools,(f p).id=p.id∧(f p).up=p.up∧(f p).root=p.root∧(f p).rule=p.rule
 chk:∀p∈b.pools,chkS p.root (usedP (f p))=0
 lease:∀p∈b.pools,∀l∈(f p).leases,leaseOK ⟨t,b.pools⟩ p l=true
 for_:∀p∈b.pools,∀id,p.leases.any (forB id)=true→(f p).leases.any (forB id)=true
theorem poolOf_mem {b:Bok}{id:Int}{p:Pol}(h:poolOf b id=some p):p∈b.pools∧p.id=id:=⟨List.mem_of_find?_eq_some h,by simpa using List.find?_some h⟩
theorem upOK_map {b:Bok}{t:Int}{f:Pol→Pol}(h:MapP b t f):∀(n:Nat) (p:Pol),p∈b.pools→upOK b n p=true→upOK ⟨t,b.pools.map f⟩ n (f p)=true
 |0,p,hp,hu=>by rw[upOK]at hu ⊢;rw[(h.id p hp).2.1];exact hu
 |n+1,p,hp,hu=>by
  rw[upOK]at hu ⊢
  obtain⟨e1,e2,e3,e4⟩:=h.id p hp
  rw[e2,poolOf_map (fun p hp=>(h.id p hp).1),e1]
  rw[Bool.or_eq_true]at hu ⊢
  rcases hu with hu|hu
  ·exact .inl hu
  ·right
   cases hq:poolOf b p.up with
   |none=>rw[hq]at hu;cases hu
   |some q=>
    rw[hq]at hu
    simp only[Option.map_some,Bool.and_eq_true]at hu ⊢
    have hqm:=(poolOf_mem hq).1
    exact⟨h.for_ q hqm _ hu.1,upOK_map h n q hqm hu.2⟩
theorem leaseOK_map {b:Bok}{t:Int}{f:Pol→Pol}(h:MapP b t f){p:Pol}(hp:p∈b.pools)(l:Lse):leaseOK ⟨t,b.pools.map f⟩ (f p) l=leaseOK ⟨t,b.pools⟩ p l:=by
 unfold leaseOK
 rw[poolOf_map (fun p hp=>(h.id p hp).1)]
 have e:poolOf ⟨t,b.pools⟩ l.owner=poolOf b l.owner:=rfl
 rw[e]
 cases hq:poolOf b l.owner with
 |none=>rfl
 |some q=>
  obtain⟨e1,e2,e3,e4⟩:=h.id q (poolOf_mem hq).1
  simp only[Option.map_some,e2,e3,(h.id p hp).1]
theorem map_ok {b:Bok}(hb:BookP b){t:Int}{f:Pol→Pol}(h:MapP b t f):BookP ⟨t,b.pools.map f⟩:=by
 refine⟨by simpa using hb.n8,h.tick,?_,fun q hq=>?_,fun q hq=>?_,fun q hq l hl=>?_,?_⟩
 ·have:=hb.rise
  unfold Rise at this ⊢
  simp only
  rw[List.pairwise_map]
  exact this.imp_of_mem fun {p q} hp hq hpq=>by rw[(h.id p hp).1,(h.id q hq).1];exact hpq
 ·obtain⟨p,hp,rfl⟩:=List.mem_map.1 hq
  obtain⟨e1,e2,e3,e4⟩:=h.id p hp
  rw[e1,e3,e4]
  exact⟨(hb.mem p hp).1,h.chk p hp,(hb.mem p hp).2.2⟩
 ·obtain⟨p,hp,rfl⟩:=List.mem_map.1 hq
  simp only[List.length_map]
  exact upOK_map h _ p hp (hb.up p hp)
 ·obtain⟨p,hp,rfl⟩:=List.mem_map.1 hq
  rw[leaseOK_map h hp]
  exact h.lease p hp l hl
 ·have:=hb.tops
  simp only
  rw[List.filter_map,List.pairwise_map]
  have e:b.pools.filter ((fun p=>p.up==0)∘f)=b.pools.filter (fun p=>p.up==0):=List.filter_congr fun p hp=>by simp only[Function.comp,(h.id p hp).2.1]
  rw[e]
  exact this.imp_of_mem fun {p q} hp hq hpq=>by rw[(h.id p (List.mem_filter.1 hp).1).2.2.1,(h.id q (List.mem_filter.1 hq).1).2.2.1];exact hpq
theorem rise_uniq {l:List Pol}(hr:Rise l){p q:Pol}(hp:p∈l)(hq:q∈l)(h:p.id=q.id):p=q:=by
 unfold Rise at hr
 obtain⟨i,hi,rfl⟩:=List.mem_iff_getElem.1 hp
 obtain⟨j,hj,rfl⟩:=List.mem_iff_getElem.1 hq
 rcases Nat.lt_trichotomy i j with hlt|he|hlt
 ·have:=List.pairwise_iff_getElem.1 hr i j hi hj hlt;omega
 ·subst he;rfl
 ·have:=List.pairwise_iff_getElem.1 hr j i hj hi hlt;omega
theorem poolOf_uniq {b:Bok}(hr:Rise b.pools){p:Pol}(hp:p∈b.pools):poolOf b p.id=some p:=by
 cases hq:poolOf b p.id with
 |none=>have:=List.find?_eq_none.1 hq p hp;simp at this
 |some q=>obtain⟨h1,h2⟩:=poolOf_mem hq;rw[rise_uniq hr h1 hp h2]
theorem chkS_sub {root:Pfx}{us vs:List Pfx}(h:chkS root us=0)(hs:vs.Sublist us):chkS root vs=0:=by
 obtain⟨h1,h2,h3,h4⟩:=chkS_ok.1 h
 exact chkS_ok.2 ⟨h1,by have:=hs.length_le;omega,fun u hu=>h3 u (hs.subset hu),h4.sublist hs⟩
theorem giveB_iff {at_:Pfx}{l:Lse}:giveB at_ l=true↔l.kind=1∧l.at_=at_:=by simp[giveB]
structure GiveP (b:Bok)(id:Int)(at_:Pfx)(p:Pol)(i:Nat)(l:Lse):Prop where
 bp:BookP b
 pool:poolOf b id=some p
 get:p.leases[i]? =some l
 user:l.kind=1∧l.at_=at_
 is:(giveR b id at_).1=updB b id fun p=>{p with leases:=coolL p i b.tick}
theorem give_inv {b:Bok}{id:Int}{at_:Pfx}(h:(giveR b id at_).2=0):∃p i l,GiveP b id at_ p i l:=by
 have hc:chkBk b=0:=by
  unfold giveR at h
  split at h
  ·rename_i hc;exact absurd h hc
  ·rename_i hc;simpa using hc
 unfold giveR at h
 rw[if_neg (by simpa using hc)]at h
 cases hp:poolOf b id with
 |none=>rw[hp]at h;cases h
 |some p=>
  rw[hp]at h
  simp only at h
  cases hi:p.leases.findIdx? (giveB at_)with
  |none=>rw[hi]at h;cases h
  |some i=>
   obtain⟨hlt,hg,-⟩:=List.findIdx?_eq_some_iff_getElem.1 hi
   refine⟨p,i,p.leases[i],bookP.1 hc,hp,List.getElem?_eq_getElem hlt,giveB_iff.1 hg,?_⟩
   unfold giveR
   rw[if_neg (by simpa using hc),hp]
   simp only
   rw[hi]
theorem coolL_eq {p:Pol}{i:Nat}{l:Lse}(h:p.leases[i]? =some l)(t:Int):coolL p i t=if p.rule.cool=0 then p.leases.eraseIdx i else p.leases.set i ⟨l.at_,3,0,t+p.rule.cool⟩:=by
 unfold coolL
 rw[h]
theorem coolL_mem {p:Pol}{i:Nat}{l x:Lse}(h:p.leases[i]? =some l){t:Int}(hx:x∈coolL p i t):(∃j,j≠i∧p.leases[j]? =some x)∨(p.rule.cool≠0∧x=⟨l.at_,3,0,t+p.rule.cool⟩):=by
 rw[coolL_eq h]at hx
 split at hx
 ·left
  obtain⟨j,hj⟩:=List.mem_iff_getElem?.1 hx
  rw[List.getElem?_eraseIdx]at hj
  split at hj
  ·exact⟨j,by omega,hj⟩
  ·exact⟨j+1,by omega,hj⟩
 ·rename_i hc
  obtain⟨j,hj⟩:=List.mem_iff_getElem?.1 hx
  rw[List.getElem?_set]at hj
  split at hj
  ·rename_i he
   split at hj
   ·exact .inr ⟨hc,(Option.some.inj hj).symm⟩
   ·cases hj
  ·rename_i he
   exact .inl ⟨j,fun e=>he e.symm,hj⟩
theorem coolL_used {p:Pol}{i:Nat}{l:Lse}(h:p.leases[i]? =some l)(t:Int):((coolL p i t).map (·.at_)).Sublist (usedP p):=by
 rw[coolL_eq h]
 split
 ·exact(List.eraseIdx_sublist _ _).map _
 ·rw[List.map_set]
  obtain⟨hi,rfl⟩:=List.getElem?_eq_some_iff.1 h
  simp only
  rw[show p.leases[i].at_=(p.leases.map (·.at_))[i]'(by simpa using hi) by simp,List.set_getElem_self]
  exact List.Sublist.refl _
theorem coolL_for {p:Pol}{i:Nat}{l:Lse}(h:p.leases[i]? =some l)(hk:l.kind≠2)(t id:Int)(ha:p.leases.any (forB id)=true):(coolL p i t).any (forB id)=true:=by
 obtain⟨x,hx,hf⟩:=List.any_eq_true.1 ha
 obtain⟨j,hj⟩:=List.mem_iff_getElem?.1 hx
 have hji:j≠i:=by
  rintro rfl
  rw[h]at hj
  cases hj
  simp[forB,hk]at hf
 rw[coolL_eq h]
 split
 ·refine List.any_eq_true.2 ⟨x,?_,hf⟩
  rcases Nat.lt_or_ge j i with hlt|hge
  ·exact List.mem_iff_getElem?.2 ⟨j,by rw[List.getElem?_eraseIdx,if_pos hlt];exact hj⟩
  ·exact List.mem_iff_getElem?.2 ⟨j - 1,by rw[List.getElem?_eraseIdx,if_neg (by omega),show j - 1+1=j by omega];exact hj⟩
 ·exact List.any_eq_true.2 ⟨x,List.mem_iff_getElem?.2 ⟨j,by rw[List.getElem?_set,if_neg (fun e=>hji e.symm)];exact hj⟩,hf⟩
theorem leaseOK_3 {b:Bok}{p:Pol}{l:Lse}(h:l.kind=3):leaseOK b p l=((l.owner==0)&&(decide (l.till>b.tick)&&decide (l.till≤b.tick+1024))):=by
 unfold leaseOK
 rw[h]
 rfl
theorem give_ok {b:Bok}{id:Int}{at_:Pfx}{p:Pol}{i:Nat}{l:Lse}(g:GiveP b id at_ p i l):BookP (updB b id fun p=>{p with leases:=coolL p i b.tick}):=by
 have hb:=g.bp
 obtain⟨hpm,hpi⟩:=poolOf_mem g.pool
 have key:∀q∈b.pools,(q.id==id)=true→q=p:=fun q hq he=>rise_uniq hb.rise hq hpm (by rw[hpi];simpa using he)
 unfold updB
 refine map_ok hb (t:=b.tick) ⟨hb.tick,fun q hq=>?_,fun q hq=>?_,fun q hq x hx=>?_,fun q hq id' ha=>?_⟩
 ·simp only
  split<;>exact⟨rfl,rfl,rfl,rfl⟩
 ·simp only
  split
  ·rename_i he
   obtain rfl:=key q hq he
   exact chkS_sub (hb.mem q hq).2.1 (coolL_used g.get _)
  ·exact(hb.mem q hq).2.1
 ·simp only at hx
  split at hx
  ·rename_i he
   obtain rfl:=key q hq he
   rcases coolL_mem g.get hx with⟨j,hj,hx⟩|⟨hc,rfl⟩
   ·exact hb.lease q hq x (List.mem_of_getElem? hx)
   ·have:=rule_bd (hb.mem q hq).2.2
    rw[leaseOK_3 rfl]
    simp;omega
  ·exact hb.lease q hq x hx
 ·simp only
  split
  ·rename_i he
   obtain rfl:=key q hq he
   exact coolL_for g.get (by rw[g.user.1];omega) _ _ ha
  ·exact ha
theorem pass_inv {b:Bok}{n:Int}(h:(passR b n).2=0):BookP b∧1≤n∧n≤1073741824 - b.tick∧(passR b n).1=⟨b.tick+n,b.pools.map (passP (b.tick+n))⟩:=by
 have hc:chkBk b=0:=by
  unfold passR at h
  split at h
  ·rename_i hc;exact absurd h hc
  ·rename_i hc;simpa using hc
 unfold passR at h ⊢
 rw[if_neg (by simpa using hc)]at h ⊢
 split at h
 ·cases h
 ·rename_i hn
  rw[if_neg hn]
  exact⟨bookP.1 hc,by omega,by omega,rfl⟩
theorem leaseOK_tick {b:Bok}{t:Int}{p:Pol}{l:Lse}(h:leaseOK b p l=true)(ht:b.tick≤t)(ho:overB t l=false):leaseOK ⟨t,b.pools⟩ p l=true:=by
 have e:poolOf ⟨t,b.pools⟩ l.owner=poolOf b l.owner:=rfl
 by_cases h3:l.kind=3
 ·rw[leaseOK_3 h3]at h ⊢
  simp[overB,h3]at h ho ⊢
  omega
 ·unfold leaseOK at h ⊢
  rw[e]
  have h3':(l.kind==3)=false:=by simpa using h3
  rw[h3']at h ⊢
  exact h
theorem pass_ok {b:Bok}(hb:BookP b){n:Int}(h1:1≤n)(h2:n≤1073741824 - b.tick):BookP ⟨b.tick+n,b.pools.map (passP (b.tick+n))⟩:=by
 have:=hb.tick
 refine map_ok hb ⟨by omega,fun q hq=>⟨rfl,rfl,rfl,rfl⟩,fun q hq=>?_,fun q hq x hx=>?_,fun q hq id' ha=>?_⟩
 ·exact chkS_sub (hb.mem q hq).2.1 (List.Sublist.map _ List.filter_sublist)
 ·have hx:=List.mem_filter.1 hx
  exact leaseOK_tick (hb.lease q hq x hx.1) (by omega) (by simpa using hx.2)
 ·obtain⟨x,hx,hf⟩:=List.any_eq_true.1 ha
  refine List.any_eq_true.2 ⟨x,List.mem_filter.2 ⟨hx,?_⟩,hf⟩
  have:x.kind=2:=by simp[forB]at hf;exact hf.1
  simp[overB,this]
structure TakeP (b:Bok)(id size owner:Int)(p:Pol)(s:Int)(q:Pfx):Prop where
 bp:BookP b
 pool:poolOf b id=some p
 own:idOKB owner=true
 hs:s=if size=0 then p.rule.usual else size
 fit:fitE p s=(q,0)
 is:(takeR b id size owner).1=updB b id fun p=>{p with leases:=insL ⟨q,1,owner,0⟩ p.leases}
 res:(takeR b id size owner).2.1=q
theorem take_inv {b:Bok}{id size owner:Int}(h:(takeR b id size owner).2.2=0):∃p s q,TakeP b id size owner p s q:=by
 have hc:chkBk b=0:=by
  unfold takeR at h
  split at h
  ·rename_i hc;exact absurd h hc
  ·rename_i hc;simpa using hc
 unfold takeR at h
 rw[if_neg (by simpa using hc)]at h
 cases hp:poolOf b id with
 |none=>rw[hp]at h;cases h
 |some p=>
  rw[hp]at h
  simp only at h
  cases ho:idOKB owner with
  |false=>rw[if_pos ho]at h;cases h
  |true=>
   rw[if_neg (by simp[ho])]at h
   by_cases hf:(fitE p (if size=0 then p.rule.usual else size)).2=0
   ·refine⟨p,_,(fitE p (if size=0 then p.rule.usual else size)).1,bookP.1 hc,hp,ho,rfl,?_,?_,?_⟩
    ·exact Prod.ext rfl hf
    ·unfold takeR
     rw[if_neg (by simpa using hc),hp]
     simp only
     rw[if_neg (by simp[ho]),if_neg (by simpa using hf)]
    ·unfold takeR
     rw[if_neg (by simpa using hc),hp]
     simp only
     rw[if_neg (by simp[ho]),if_neg (by simpa using hf)]
   ·rw[if_pos (by simpa using hf)]at h
    exact absurd h hf
theorem fitE_inv {p:Pol}{s:Int}{q:Pfx}(hc:chkS p.root (usedP p)=0)(hr:ruleOK p.rule p.root.len=true)(h:fitE p s=(q,0)):p.rule.min≤s∧s≤p.rule.max∧p.leases.length≠32∧q.len=s∧insQ q p.root=true∧freeP (usedP p) q=true∧∀x:Pfx,x.len=s→insQ x p.root=true→freeP (usedP p) x=true→q.at_≤x.at_:=by
 have hb:=rule_bd hr
 unfold fitE at h
 split at h
 ·cases h
 ·rename_i h1
  split at h
  ·cases h
  ·rename_i h2
   have h2:=not_or.1 h2
   cases h
   rcases fit_law (chkS_ok.1 hc) (size:=s) ⟨by omega,by omega⟩with⟨a,-⟩|⟨-,a,b,c,d⟩
   ·exact absurd a h2.1
   ·exact⟨by omega,by omega,h2.2,a,b,c,d⟩
theorem free_iff {us:List Pfx}{p:Pfx}:freeP us p=true↔∀u∈us,p.meets u=false:=by
 simp[freeP]
def Has (x:Int)(q:Pfx):Prop:=q.at_≤x∧x < q.hi
inductive Anc (b:Bok):Pol→Pol→Prop
 |refl (p:Pol):Anc b p p
 |step {p q r:Pol} (h0:p.up≠0) (hq:poolOf b p.up=some q) (h:Anc b q r):Anc b p r
theorem Anc.trans {b:Bok}{p q r:Pol}(h:Anc b p q)(k:Anc b q r):Anc b p r:=by
 induction h with
 |refl=>exact k
 |step h0 hq _ ih=>exact .step h0 hq (ih k)
theorem up_lease {b:Bok}(hb:BookP b){p:Pol}(hp:p∈b.pools)(h0:p.up≠0):∃q,poolOf b p.up=some q∧q∈b.pools∧(∀n,upOK b (n+1) p=true→upOK b n q=true)∧∃l∈q.leases,l.kind=2∧l.owner=p.id∧l.at_=p.root:=by
 have hu:=hb.up p hp
 have h0':(p.up==0)=false:=by simpa using h0
 cases hn:b.pools.length with
 |zero=>rw[hn,upOK,h0']at hu;cases hu
 |succ n=>
  rw[hn,upOK,h0',Bool.false_or]at hu
  cases hq:poolOf b p.up with
  |none=>rw[hq]at hu;cases hu
  |some q=>
   rw[hq]at hu
   simp only[Bool.and_eq_true]at hu
   have hqm:=(poolOf_mem hq).1
   refine⟨q,rfl,hqm,fun m hm=>?_,?_⟩
   ·rw[upOK,h0',Bool.false_or,hq]at hm
    simp only[Bool.and_eq_true]at hm
    exact hm.2
   ·obtain⟨l,hl,hf⟩:=List.any_eq_true.1 hu.1
    simp only[forB,Bool.and_eq_true,beq_iff_eq]at hf
    refine⟨l,hl,hf.1,hf.2,?_⟩
    have hle:=hb.lease q hqm l hl
    unfold leaseOK at hle
    rw[hf.1,hf.2,poolOf_uniq hb.rise hp]at hle
    simp at hle
    exact hle.2.1.symm
theorem leases_one {b:Bok}(hb:BookP b){p:Pol}(hp:p∈b.pools){l m:Lse}(hl:l∈p.leases)(hm:m∈p.leases){x:Int}(h1:Has x l.at_)(h2:Has x m.at_):l=m:=by
 have hap:=(chkS_ok.1 (hb.mem p hp).2.1).apart
 unfold usedP at hap
 rw[List.pairwise_map,List.pairwise_iff_getElem]at hap
 obtain⟨i,hi,rfl⟩:=List.mem_iff_getElem.1 hl
 obtain⟨j,hj,rfl⟩:=List.mem_iff_getElem.1 hm
 unfold Has at h1 h2
 rcases Nat.lt_trichotomy i j with h|h|h
 ·have:=hap i j hi hj h
  unfold Apart at this;omega
 ·subst h;rfl
 ·have:=hap j i hj hi h
  unfold Apart at this;omega
theorem lease_in {b:Bok}(hb:BookP b){p:Pol}(hp:p∈b.pools){l:Lse}(hl:l∈p.leases):insQ l.at_ p.root=true:=
 (chkS_ok.1 (hb.mem p hp).2.1).ins _ (List.mem_map.2 ⟨l,hl,rfl⟩)
theorem insL_mem {l x:Lse}{ls:List Lse}:x∈insL l ls↔x=l∨x∈ls:=by
 unfold insL
 rw[List.mem_append,List.mem_cons]
 constructor
 ·rintro (h|h|h)
  ·exact .inr (List.mem_of_mem_take h)
  ·exact .inl h
  ·exact .inr (List.mem_of_mem_drop h)
 ·rintro (h|h)
  ·exact .inr (.inl h)
  ·rw[←List.take_append_drop (lbN (fun x:Lse=>x.at_.at_) l.at_.at_ ls) ls,List.mem_append]at h
   rcases h with h|h
   ·exact .inl h
   ·exact .inr (.inr h)
theorem insL_apart {root:Pfx}{l:Lse}{ls:List Lse}(h:chkS root (ls.map (·.at_))=0)(h32:ls.length≠32)(hi:insQ l.at_ root=true)(hf:freeP (ls.map (·.at_)) l.at_=true):chkS root ((insL l ls).map (·.at_))=0:=by
 obtain⟨h1,h2,h3,h4⟩:=chkS_ok.1 h
 have hlen:(insL l ls).length=ls.length+1:=by
  have:=lbN_leB (fun x:Lse=>x.at_.at_) l.at_.at_ ls
  unfold insL;simp;omega
 rw[chkS_ok]
 refine⟨h1,by rw[List.length_map,hlen];rw[List.length_map]at h2;omega,fun u hu=>?_,?_⟩
 ·obtain⟨x,hx,rfl⟩:=List.mem_map.1 hu
  rcases insL_mem.1 hx with rfl|hx
  ·exact hi
  ·exact h3 _ (List.mem_map.2 ⟨x,hx,rfl⟩)
 ·have hr:=(insQ_hi.1 hi).1
  have hb:=Pfx.hi_bd hr
  have key:∀x∈ls,(x.at_.at_ < l.at_.at_→Apart x.at_ l.at_)∧(l.at_.at_≤x.at_.at_→Apart l.at_ x.at_):=by
   intro x hx
   have hxr:=(insQ_hi.1 (h3 _ (List.mem_map.2 ⟨x,hx,rfl⟩))).1
   have hxb:=Pfx.hi_bd hxr
   have hm:=free_iff.1 hf _ (List.mem_map.2 ⟨x,hx,rfl⟩)
   have hn:¬(l.at_.at_ < x.at_.hi∧x.at_.at_ < l.at_.hi):=fun hh=>by
    rw[meets_iff.2 ⟨hr,hxr,hh.1,hh.2⟩]at hm;cases hm
   unfold Apart
   omega
  rw[List.pairwise_map]at h4 ⊢
  unfold insL
  rw[List.pairwise_append]
  have hlow:∀x∈ls.take (lbN (fun x:Lse=>x.at_.at_) l.at_.at_ ls),x.at_.at_ < l.at_.at_:=by
   intro x hx
   obtain⟨i,hi,rfl⟩:=List.mem_iff_getElem.1 hx
   rw[List.getElem_take]
   have:=List.not_of_lt_findIdx (show i < lbN (fun x:Lse=>x.at_.at_) l.at_.at_ ls by rw[List.length_take]at hi;omega)
   simp at this
   exact this
  have hhigh:∀x∈ls.drop (lbN (fun x:Lse=>x.at_.at_) l.at_.at_ ls),l.at_.at_≤x.at_.at_:=by
   intro x hx
   obtain⟨i,hi,rfl⟩:=List.mem_iff_getElem.1 hx
   rw[List.getElem_drop]
   rw[List.length_drop]at hi
   have hlt:lbN (fun x:Lse=>x.at_.at_) l.at_.at_ ls < ls.length:=by omega
   have h0:=List.findIdx_getElem (xs:=ls) (p:=fun x=>decide (l.at_.at_≤(fun x:Lse=>x.at_.at_) x)) (w:=hlt)
   simp only[decide_eq_true_eq]at h0
   change l.at_.at_≤(ls[lbN (fun x:Lse=>x.at_.at_) l.at_.at_ ls]'hlt).at_.at_ at h0
   rcases Nat.eq_zero_or_pos i with h|h
   ·subst h;exact h0
   ·have hp:=List.pairwise_iff_getElem.1 h4 _ (lbN (fun x:Lse=>x.at_.at_) l.at_.at_ ls+i) hlt (by omega) (by omega)
    have hx0:=Pfx.hi_bd (insQ_hi.1 (h3 _ (List.mem_map.2 ⟨_,List.getElem_mem hlt,rfl⟩))).1
    unfold Apart at hp
    omega
  refine⟨h4.sublist (List.take_sublist _ _),List.pairwise_cons.2 ⟨fun x hx=>(key x (List.mem_of_mem_drop hx)).2 (hhigh x hx),h4.sublist (List.drop_sublist _ _)⟩,fun x hx y hy=>?_⟩
  have hx0:=hlow x hx
  have hx1:=(key x (List.mem_of_mem_take hx)).1 hx0
  rcases List.mem_cons.1 hy with rfl|hy
  ·exact hx1
  ·have hy1:=(key y (List.mem_of_mem_drop hy)).2 (hhigh y hy)
   unfold Apart at*
   omega
theorem take_ok {b:Bok}{id size owner:Int}{p:Pol}{s:Int}{q:Pfx}(t:TakeP b id size owner p s q):BookP (updB b id fun p=>{p with leases:=insL ⟨q,1,owner,0⟩ p.leases}):=by
 have hb:=t.bp
 obtain⟨hpm,hpi⟩:=poolOf_mem t.pool
 have hm:=hb.mem p hpm
 obtain⟨-,-,f1,f2,f3,f4,-⟩:=fitE_inv hm.2.1 hm.2.2 t.fit
 have key:∀q∈b.pools,(q.id==id)=true→q=p:=fun q hq he=>rise_uniq hb.rise hq hpm (by rw[hpi];simpa using he)
 unfold updB
 refine map_ok hb (t:=b.tick) ⟨hb.tick,fun r hr=>?_,fun r hr=>?_,fun r hr x hx=>?_,fun r hr id' ha=>?_⟩
 ·simp only
  split<;>exact⟨rfl,rfl,rfl,rfl⟩
 ·simp only
  split
  ·rename_i he
   obtain rfl:=key r hr he
   exact insL_apart (l:=⟨q,1,owner,0⟩) hm.2.1 f1 f3 f4
  ·exact(hb.mem r hr).2.1
 ·simp only at hx
  split at hx
  ·rename_i he
   obtain rfl:=key r hr he
   rcases insL_mem.1 hx with rfl|hx
   ·unfold leaseOK
    simp[t.own]
   ·exact hb.lease r hr x hx
  ·exact hb.lease r hr x hx
 ·simp only
  split
  ·obtain⟨x,hx,hf⟩:=List.any_eq_true.1 ha
   exact List.any_eq_true.2 ⟨x,insL_mem.2 (.inr hx),hf⟩
  ·exact ha
theorem upOK_mono {b:Bok}:∀{n:Nat}{p:Pol},upOK b n p=true→upOK b (n+1) p=true
 |0,p,h=>by rw[upOK]at h;exact upOK_zero 1 h
 |n+1,p,h=>by
  rw[upOK]at h ⊢
  rw[Bool.or_eq_true]at h ⊢
  rcases h with h|h
  ·exact .inl h
  ·right
   cases hq:poolOf b p.up with
   |none=>rw[hq]at h;cases h
   |some q=>
    rw[hq]at h
    simp only[Bool.and_eq_true]at h ⊢
    exact⟨h.1,upOK_mono h.2⟩
theorem upOK_le {b:Bok}{n m:Nat}{p:Pol}(h:upOK b n p=true)(hm:n≤m):upOK b m p=true:=by
 induction hm with
 |refl=>exact h
 |step _ ih=>exact upOK_mono ih
theorem upOK_to {b b':Bok}{S:Pol→Prop}{f:Pol→Pol}(hf:∀p,S p→(f p).up=p.up∧(f p).id=p.id)
 (hs:∀p q,S p→p.up≠0→poolOf b p.up=some q→q.leases.any (forB p.id)=true→S q∧poolOf b' p.up=some (f q)∧(f q).leases.any (forB p.id)=true):
 ∀(n:Nat) (p:Pol),S p→upOK b n p=true→upOK b' n (f p)=true
 |0,p,hp,hu=>by rw[upOK]at hu ⊢;rw[(hf p hp).1];exact hu
 |n+1,p,hp,hu=>by
  by_cases h0:p.up=0
  ·exact upOK_zero _ (by rw[(hf p hp).1];simpa using h0)
  ·have hb:(p.up==0)=false:=by simpa using h0
   rw[upOK,hb,Bool.false_or]at hu
   rw[upOK,(hf p hp).1,(hf p hp).2,hb,Bool.false_or]
   cases hq:poolOf b p.up with
   |none=>rw[hq]at hu;cases hu
   |some q=>
    rw[hq]at hu
    simp only[Bool.and_eq_true]at hu
    obtain⟨h1,h2,h3⟩:=hs p q hp h0 hq hu.1
    rw[h2]
    simp only[Bool.and_eq_true]
    exact⟨h3,upOK_to hf hs n q h1 hu.2⟩
theorem leaseOK_to {b b':Bok}{p p':Pol}{l:Lse}(ht:b'.tick=b.tick)(hi:p'.id=p.id)(h:leaseOK b p l=true)
 (hq:l.kind=2→∀q,poolOf b l.owner=some q→∃q',poolOf b' l.owner=some q'∧q'.up=q.up∧q'.root=q.root):leaseOK b' p' l=true:=by
 unfold leaseOK at h ⊢
 rw[ht,hi]
 by_cases h2:l.kind=2
 ·have hk1:(l.kind==1)=false:=by simp[h2]
  have hk2:(l.kind==2)=true:=by simp[h2]
  rw[hk1,hk2]at h ⊢
  simp only[Bool.false_eq_true,if_false,if_true]at h ⊢
  cases ho:poolOf b l.owner with
  |none=>rw[ho]at h;cases h
  |some q=>
   rw[ho]at h
   obtain⟨q',e1,e2,e3⟩:=hq h2 q ho
   rw[e1]
   simp only[e2,e3]
   exact h
 ·have hk2:(l.kind==2)=false:=by simpa using h2
  rw[hk2]at h ⊢
  exact h
theorem insB_K (p:Pol)(ps:List Pol):insB p ps=insK (fun x:Pol=>x.id) p ps:=rfl
theorem insK_filter {α:Type}{key:α→Int}{x:α}{l:List α}{f:α→Bool}(h:f x=false):(insK key x l).filter f=l.filter f:=by
 unfold insK
 rw[List.filter_append,List.filter_cons_of_neg (by simp[h]),←List.filter_append,List.take_append_drop]
theorem poolOf_no {b:Bok}{id:Int}(h:poolOf b id=none):∀p∈b.pools,p.id≠id:=fun p hp=>by
 have:=List.find?_eq_none.1 h p hp
 simpa using this
theorem poolOf_zero {b:Bok}(hb:BookP b):poolOf b 0=none:=by
 refine List.find?_eq_none.2 fun p hp=>?_
 have:=idOK_bd (hb.mem p hp).1
 simp
 omega
theorem poolOf_rise {t:Int}{l:List Pol}(hr:Rise l){p:Pol}(hp:p∈l):poolOf ⟨t,l⟩ p.id=some p:=poolOf_uniq (b:=⟨t,l⟩) hr hp
structure OpenP (b:Bok)(id:Int)(root:Pfx)(r:Rul):Prop where
 bp:BookP b
 idk:idOKB id=true
 ck:chk root.at_ root.len=0
 no:poolOf b id=none
 free:∀p∈b.pools,p.up=0→p.root.meets root=false
 rule:ruleOK r root.len=true
 n8:b.pools.length≠8
 is:(openR b id root r).1=⟨b.tick,insB ⟨id,0,root,r,[]⟩ b.pools⟩
theorem open_inv {b:Bok}{id:Int}{root:Pfx}{r:Rul}(h:(openR b id root r).2=0):OpenP b id root r:=by
 unfold openR at h
 by_cases hc:chkBk b≠0
 ·rw[if_pos hc]at h;exact absurd h hc
 rw[if_neg hc]at h
 by_cases he:openE b id root r≠0
 ·rw[if_pos he]at h;exact absurd h he
 have is:(openR b id root r).1=⟨b.tick,insB ⟨id,0,root,r,[]⟩ b.pools⟩:=by unfold openR;rw[if_neg hc,if_neg he]
 have he:openE b id root r=0:=by simpa using he
 have hb:=bookP.1 (show chkBk b=0 by simpa using hc)
 clear h hc
 unfold openE at he
 split at he
 ·cases he
 rename_i h1
 split at he
 ·cases he
 rename_i h2
 split at he
 ·cases he
 rename_i h3
 split at he
 ·cases he
 rename_i h4
 have h1:=not_or.1 h1
 have h2:=not_or.1 h2
 refine⟨hb,by simpa using h1.1,by simpa using h1.2,by simpa using h2.1,fun p hp h0=>?_,by simpa using h3,h4,is⟩
 have h5:(b.pools.any fun p=>(p.up==0)&&p.root.meets root)=false:=by simpa only[Bool.not_eq_true]using h2.2
 have:=List.any_eq_false.1 h5 p hp
 simpa[h0]using this
theorem chkS_nil {root:Pfx}(h:chk root.at_ root.len=0):chkS root []=0:=by
 rw[chkS_ok]
 exact⟨by simp[Pfx.right,rightB,h],by simp,fun u hu=>by simp at hu,List.Pairwise.nil⟩
theorem open_ok {b:Bok}{id:Int}{root:Pfx}{r:Rul}(o:OpenP b id root r):BookP ⟨b.tick,insB ⟨id,0,root,r,[]⟩ b.pools⟩:=by
 have hb:=o.bp
 have hno:=poolOf_no o.no
 have hr:Rise (insB ⟨id,0,root,r,[]⟩ b.pools):=insK_sorted (key:=fun x:Pol=>x.id) (x:=⟨id,0,root,r,[]⟩) hb.rise hno
 have hlen:(insB ⟨id,0,root,r,[]⟩ b.pools).length=b.pools.length+1:=insK_len ..
 have hkeep:∀p∈b.pools,poolOf ⟨b.tick,insB ⟨id,0,root,r,[]⟩ b.pools⟩ p.id=some p:=fun p hp=>poolOf_rise hr (insK_mem.2 (.inr hp))
 refine⟨by have:=hb.n8;have:=o.n8;simp only[hlen];omega,hb.tick,hr,fun p hp=>?_,fun p hp=>?_,fun p hp l hl=>?_,?_⟩
 ·rcases insK_mem.1 hp with rfl|hp
  ·exact⟨o.idk,chkS_nil o.ck,o.rule⟩
  ·exact hb.mem p hp
 ·rcases insK_mem.1 hp with rfl|hp
  ·exact upOK_zero _ rfl
  ·simp only[hlen]
   refine upOK_mono (upOK_to (b:=b) (S:=fun p=>p∈b.pools) (f:=fun p=>p) (fun _ _=>⟨rfl,rfl⟩) (fun p q _ _ hq ha=>?_) _ p hp (hb.up p hp))
   obtain⟨hqm,hqi⟩:=poolOf_mem hq
   exact⟨hqm,by rw[←hqi];exact hkeep q hqm,ha⟩
 ·rcases insK_mem.1 hp with rfl|hp
  ·simp at hl
  ·refine leaseOK_to (b:=b) rfl rfl (hb.lease p hp l hl) fun _ q hq=>?_
   obtain⟨hqm,hqi⟩:=poolOf_mem hq
   exact⟨q,by rw[←hqi];exact hkeep q hqm,rfl,rfl⟩
 ·have hp:((insB ⟨id,0,root,r,[]⟩ b.pools).filter fun p=>p.up==0).Perm ((⟨id,0,root,r,[]⟩:Pol)::b.pools.filter fun p=>p.up==0):=by
   refine((insK_perm (fun x:Pol=>x.id) ⟨id,0,root,r,[]⟩ b.pools).filter _).trans ?_
   rw[List.filter_append]
   exact List.perm_append_singleton _ _
  refine(List.Perm.pairwise_iff (R:=fun p q:Pol=>q.root.meets p.root=false) (fun {p q} h=>by rw[meets_comm];exact h) hp).2 ?_
  rw[List.pairwise_cons]
  refine⟨fun p hp=>?_,hb.tops⟩
  obtain⟨h1,h2⟩:=List.mem_filter.1 hp
  exact o.free p h1 (by simpa using h2)
structure NestP (b:Bok)(id up size:Int)(r:Rul)(p:Pol)(q:Pfx):Prop where
 bp:BookP b
 idk:idOKB id=true
 pool:poolOf b up=some p
 no:poolOf b id=none
 fit:fitE p size=(q,0)
 rule:ruleOK r q.len=true
 n8:b.pools.length≠8
 is:(nestR b id up size r).1=⟨b.tick,insB ⟨id,up,q,r,[]⟩ (updB b up fun p=>{p with leases:=insL ⟨q,2,id,0⟩ p.leases}).pools⟩
 res:(nestR b id up size r).2.1=q
theorem nest_inv {b:Bok}{id up size:Int}{r:Rul}(h:(nestR b id up size r).2.2=0):∃p q,NestP b id up size r p q:=by
 by_cases hc:chkBk b≠0
 ·unfold nestR at h
  rw[if_pos hc]at h;exact absurd h hc
 by_cases h1:idOKB id=false
 ·unfold nestR at h
  rw[if_neg hc,if_pos h1]at h;cases h
 cases hp:poolOf b up with
 |none=>
  unfold nestR at h
  rw[if_neg hc,if_neg h1,hp]at h;cases h
 |some p=>
  by_cases h2:(poolOf b id).isSome=true
  ·unfold nestR at h
   rw[if_neg hc,if_neg h1,hp]at h
   simp only at h
   rw[if_pos h2]at h;cases h
  by_cases h3:(fitE p size).2≠0
  ·unfold nestR at h
   rw[if_neg hc,if_neg h1,hp]at h
   simp only at h
   rw[if_neg h2,if_pos h3]at h;exact absurd h h3
  by_cases h4:ruleOK r (fitE p size).1.len=false
  ·unfold nestR at h
   rw[if_neg hc,if_neg h1,hp]at h
   simp only at h
   rw[if_neg h2,if_neg h3,if_pos h4]at h;cases h
  by_cases h5:b.pools.length=8
  ·unfold nestR at h
   rw[if_neg hc,if_neg h1,hp]at h
   simp only at h
   rw[if_neg h2,if_neg h3,if_neg h4,if_pos h5]at h;cases h
  have e:nestR b id up size r=(⟨b.tick,insB ⟨id,up,(fitE p size).1,r,[]⟩ (updB b up fun p=>{p with leases:=insL ⟨(fitE p size).1,2,id,0⟩ p.leases}).pools⟩,(fitE p size).1,0):=by
   unfold nestR
   rw[if_neg hc,if_neg h1,hp]
   simp only
   rw[if_neg h2,if_neg h3,if_neg h4,if_neg h5]
  have hb:=bookP.1 (show chkBk b=0 by simpa using hc)
  obtain⟨hpm,hpi⟩:=poolOf_mem hp
  have hu:(updB b up fun p=>{p with leases:=insL ⟨(fitE p size).1,2,id,0⟩ p.leases})=(updB b up fun x=>{x with leases:=insL ⟨(fitE p size).1,2,id,0⟩ x.leases}):=by
   unfold updB
   refine congrArg _ (List.map_congr_left fun s hs=>?_)
   by_cases he:(s.id==up)=true
   ·rw[if_pos he,if_pos he,rise_uniq hb.rise hs hpm (by rw[hpi];simpa using he)]
   ·rw[if_neg he,if_neg he]
  rw[hu]at e
  exact⟨p,(fitE p size).1,hb,by simpa using h1,hp,by simpa using h2,Prod.ext rfl (by simpa using h3),by simpa using h4,h5,congrArg Prod.fst e,congrArg (fun x=>x.2.1) e⟩
theorem nest_ok {b:Bok}{id up size:Int}{r:Rul}{p:Pol}{q:Pfx}(n:NestP b id up size r p q):BookP ⟨b.tick,insB ⟨id,up,q,r,[]⟩ (updB b up fun p=>{p with leases:=insL ⟨q,2,id,0⟩ p.leases}).pools⟩:=by
 have hb:=n.bp
 have hno:=poolOf_no n.no
 obtain⟨hpm,hpi⟩:=poolOf_mem n.pool
 have hm:=hb.mem p hpm
 obtain⟨-,-,f1,f2,f3,f4,-⟩:=fitE_inv hm.2.1 hm.2.2 n.fit
 have hup0:up≠0:=by have:=idOK_bd hm.1;omega
 have key:∀r∈b.pools,(r.id==up)=true→r=p:=fun r hr he=>rise_uniq hb.rise hr hpm (by rw[hpi];simpa using he)
 obtain⟨f,hf⟩:∃f:Pol→Pol,f=fun r=>if r.id==up then {r with leases:=insL ⟨q,2,id,0⟩ r.leases} else r:=⟨_,rfl⟩
 have hpools:(updB b up fun p=>{p with leases:=insL ⟨q,2,id,0⟩ p.leases}).pools=b.pools.map f:=by rw[hf];rfl
 rw[hpools]
 have hfi:∀r,(f r).id=r.id∧(f r).up=r.up∧(f r).root=r.root∧(f r).rule=r.rule:=fun r=>by rw[hf];simp only;split<;>exact⟨rfl,rfl,rfl,rfl⟩
 have hfl:∀r∈b.pools,∀x∈(f r).leases,(r.id=up∧x=⟨q,2,id,0⟩)∨x∈r.leases:=fun r hr x hx=>by
  rw[hf]at hx
  simp only at hx
  split at hx
  ·rename_i he
   rcases insL_mem.1 hx with h|h
   ·exact .inl ⟨by simpa using he,h⟩
   ·exact .inr h
  ·exact .inr hx
 have hfa:∀r id',r.leases.any (forB id')=true→(f r).leases.any (forB id')=true:=fun r id' ha=>by
  rw[hf]
  simp only
  split
  ·obtain⟨x,hx,hx2⟩:=List.any_eq_true.1 ha
   exact List.any_eq_true.2 ⟨x,insL_mem.2 (.inr hx),hx2⟩
  ·exact ha
 have hrm:Rise (b.pools.map f):=by
  unfold Rise
  rw[List.pairwise_map]
  exact hb.rise.imp fun {a c} h=>by rw[(hfi a).1,(hfi c).1];exact h
 have hnom:∀r∈b.pools.map f,r.id≠id:=fun r hr=>by
  obtain⟨r',hr',rfl⟩:=List.mem_map.1 hr
  rw[(hfi r').1];exact hno r' hr'
 have hr:Rise (insB ⟨id,up,q,r,[]⟩ (b.pools.map f)):=insK_sorted (key:=fun x:Pol=>x.id) (x:=⟨id,up,q,r,[]⟩) hrm hnom
 have hlen:(insB ⟨id,up,q,r,[]⟩ (b.pools.map f)).length=b.pools.length+1:=(insK_len ..).trans (by rw[List.length_map])
 have hkeep:∀r'∈b.pools,poolOf ⟨b.tick,insB ⟨id,up,q,r,[]⟩ (b.pools.map f)⟩ r'.id=some (f r'):=fun r' hr'=>by
  have:=poolOf_rise (t:=b.tick) hr (p:=f r') (insK_mem.2 (.inr (List.mem_map.2 ⟨r',hr',rfl⟩)))
  rw[(hfi r').1]at this;exact this
 have hnew:poolOf ⟨b.tick,insB ⟨id,up,q,r,[]⟩ (b.pools.map f)⟩ id=some ⟨id,up,q,r,[]⟩:=poolOf_rise (t:=b.tick) hr (p:=⟨id,up,q,r,[]⟩) (insK_mem.2 (.inl rfl))
 have hupk:∀r'∈b.pools,∀n,upOK b n r'=true→upOK ⟨b.tick,insB ⟨id,up,q,r,[]⟩ (b.pools.map f)⟩ n (f r')=true:=fun r' hr' n hn=>by
  refine upOK_to (b:=b) (S:=fun p=>p∈b.pools) (f:=f) (fun p _=>⟨(hfi p).2.1,(hfi p).1⟩) (fun p q _ _ hq ha=>?_) n r' hr' hn
  obtain⟨hqm,hqi⟩:=poolOf_mem hq
  exact⟨hqm,by rw[←hqi];exact hkeep q hqm,hfa q _ ha⟩
 refine⟨by have:=hb.n8;have:=n.n8;simp only[hlen];omega,hb.tick,hr,fun s hs=>?_,fun s hs=>?_,fun s hs l hl=>?_,?_⟩
 ·rcases insK_mem.1 hs with rfl|hs
  ·refine⟨n.idk,chkS_nil ?_,n.rule⟩
   have:=(insQ_hi.1 f3).1
   simpa[Pfx.right,rightB]using this
  ·obtain⟨s',hs',rfl⟩:=List.mem_map.1 hs
   obtain⟨e1,e2,e3,e4⟩:=hfi s'
   rw[e1,e3,e4]
   refine⟨(hb.mem s' hs').1,?_,(hb.mem s' hs').2.2⟩
   rw[hf]
   simp only
   split
   ·rename_i he
    obtain rfl:=key s' hs' he
    exact insL_apart (l:=⟨q,2,id,0⟩) hm.2.1 f1 f3 f4
   ·exact(hb.mem s' hs').2.1
 ·simp only[hlen]
  rcases insK_mem.1 hs with rfl|hs
  ·have h0:(up==0)=false:=by simpa using hup0
   have hkp:=hkeep p hpm
   rw[hpi]at hkp
   rw[upOK]
   simp only[h0,Bool.false_or]
   rw[hkp]
   simp only[Bool.and_eq_true]
   refine⟨List.any_eq_true.2 ⟨⟨q,2,id,0⟩,?_,by simp[forB]⟩,hupk p hpm _ (hb.up p hpm)⟩
   rw[hf]
   simp only[hpi,beq_self_eq_true,if_true]
   exact insL_mem.2 (.inl rfl)
  ·obtain⟨s',hs',rfl⟩:=List.mem_map.1 hs
   exact upOK_mono (hupk s' hs' _ (hb.up s' hs'))
 ·rcases insK_mem.1 hs with rfl|hs
  ·simp at hl
  ·obtain⟨s',hs',rfl⟩:=List.mem_map.1 hs
   rcases hfl s' hs' l hl with⟨he,rfl⟩|hl
   ·unfold leaseOK
    simp only[hnew,(hfi s').1]
    simp[he]
   ·refine leaseOK_to (b:=b) rfl (hfi s').1 (hb.lease s' hs' l hl) fun _ q' hq=>?_
    obtain⟨hqm,hqi⟩:=poolOf_mem hq
    exact⟨f q',by rw[←hqi];exact hkeep q' hqm,(hfi q').2.1,(hfi q').2.2.1⟩
 ·have e:(insB ⟨id,up,q,r,[]⟩ (b.pools.map f)).filter (fun p=>p.up==0)=(b.pools.filter fun p=>p.up==0).map f:=by
   rw[insB_K,insK_filter (by simpa using hup0),List.filter_map]
   refine congrArg _ (List.filter_congr fun p _=>?_)
   simp only[Function.comp,(hfi p).2.1]
  simp only[e]
  rw[List.pairwise_map]
  exact hb.tops.imp fun {a c} h=>by rw[(hfi a).2.2.1,(hfi c).2.2.1];exact h
theorem up_least {b:Bok}{p:Pol}:∀{n:Nat},upOK b n p=true→∃k,k≤n∧upOK b k p=true∧(k=0∨upOK b (k - 1) p=false)
 |0,h=>⟨0,Nat.le_refl _,h,.inl rfl⟩
 |n+1,h=>by
  cases hn:upOK b n p with
  |false=>exact⟨n+1,Nat.le_refl _,h,.inr (by simpa using hn)⟩
  |true=>
   obtain⟨k,h1,h2⟩:=up_least hn
   exact⟨k,by omega,h2⟩
theorem up_chain {b:Bok}(hb:BookP b){id:Int}(hno:∀q∈b.pools,q.up≠id):∀(k:Nat) (q:Pol),q∈b.pools→q.id≠id→upOK b k q=true→(k=0∨upOK b (k - 1) q=false)→
 ∃L:List Pol,L.length=k+1∧L.Nodup∧∀x∈L,x∈b.pools∧x.id≠id∧upOK b k x=true
 |0,q,hq,hi,hu,_=>⟨[q],rfl,by simp,fun x hx=>by obtain rfl:=List.mem_singleton.1 hx;exact⟨hq,hi,hu⟩⟩
 |k+1,q,hq,hi,hu,hl=>by
  have hl:upOK b k q=false:=by simpa using hl
  have h0:q.up≠0:=fun e=>by rw[upOK_zero k (by simpa using e)]at hl;cases hl
  obtain⟨r,hr,hrm,hn,l,hlm,l1,l2,l3⟩:=up_lease hb hq h0
  have hri:=(poolOf_mem hr).2
  obtain⟨L,e1,e2,e3⟩:=up_chain hb hno k r hrm (by rw[hri];exact hno q hq) (hn k hu) (by
   cases k with
   |zero=>exact .inl rfl
   |succ k=>
    right
    cases hh:upOK b k r with
    |false=>simpa using hh
    |true=>
     exfalso
     rw[upOK,show (q.up==0)=false by simpa using h0,Bool.false_or,hr]at hl
     simp only[hh,Bool.and_true]at hl
     have:=List.any_eq_false.1 hl l hlm
     simp[forB,l1,l2]at this)
  refine⟨q::L,by rw[List.length_cons,e1],List.nodup_cons.2 ⟨fun h=>?_,e2⟩,fun x hx=>?_⟩
  ·have:=(e3 q h).2.2
   rw[hl]at this;cases this
  ·rcases List.mem_cons.1 hx with rfl|hx
   ·exact⟨hq,hi,hu⟩
   ·exact⟨(e3 x hx).1,(e3 x hx).2.1,upOK_mono (e3 x hx).2.2⟩
theorem up_short {b:Bok}(hb:BookP b){p:Pol}(hp:p∈b.pools)(hno:∀q∈b.pools,q.up≠p.id){q:Pol}(hq:q∈b.pools)(hi:q.id≠p.id):upOK b (b.pools.filter fun q=>!(q.id==p.id)).length q=true:=by
 obtain⟨k,-,h1,h2⟩:=up_least (hb.up q hq)
 obtain⟨L,e1,e2,e3⟩:=up_chain hb hno k q hq hi h1 h2
 refine upOK_le h1 ?_
 have:L.length≤(b.pools.filter fun q=>!(q.id==p.id)).length:=e2.length_le_of_subset fun x hx=>List.mem_filter.2 ⟨(e3 x hx).1,by simpa using (e3 x hx).2.1⟩
 omega
theorem coolL_for2 {p:Pol}{i:Nat}{l:Lse}(h:p.leases[i]? =some l)(t id:Int)(hk:forB id l=false)(ha:p.leases.any (forB id)=true):(coolL p i t).any (forB id)=true:=by
 obtain⟨x,hx,hf⟩:=List.any_eq_true.1 ha
 obtain⟨j,hj⟩:=List.mem_iff_getElem?.1 hx
 have hji:j≠i:=by
  rintro rfl
  rw[h]at hj
  cases hj
  rw[hk]at hf;cases hf
 rw[coolL_eq h]
 split
 ·refine List.any_eq_true.2 ⟨x,?_,hf⟩
  rcases Nat.lt_or_ge j i with hlt|hge
  ·exact List.mem_iff_getElem?.2 ⟨j,by rw[List.getElem?_eraseIdx,if_pos hlt];exact hj⟩
  ·exact List.mem_iff_getElem?.2 ⟨j - 1,by rw[List.getElem?_eraseIdx,if_neg (by omega),show j - 1+1=j by omega];exact hj⟩
 ·exact List.any_eq_true.2 ⟨x,List.mem_iff_getElem?.2 ⟨j,by rw[List.getElem?_set,if_neg (fun e=>hji e.symm)];exact hj⟩,hf⟩
structure ClosF (b:Bok)(p:Pol)(f:Pol→Pol):Prop where
 id:∀q,(f q).id=q.id∧(f q).up=q.up∧(f q).root=q.root∧(f q).rule=q.rule
 chk:∀q∈b.pools,chkS q.root (usedP (f q))=0
 lease:∀q∈b.pools,∀x∈(f q).leases,leaseOK b q x=true∧forB p.id x=false
 old:∀q∈b.pools,∀x∈(f q).leases,x.kind≠3→x∈q.leases
 keep:∀q∈b.pools,∀x∈q.leases,x.kind≠2→x∈(f q).leases
 for_:∀q∈b.pools,∀id,id≠p.id→q.leases.any (forB id)=true→(f q).leases.any (forB id)=true
theorem close_f {b:Bok}(hb:BookP b){p:Pol}(hp:p∈b.pools):∃f,closeL b p=b.pools.map f∧ClosF b p f:=by
 have hpo:=poolOf_uniq hb.rise hp
 have hfor:∀q∈b.pools,∀x∈q.leases,forB p.id x=true→p.up=q.id∧x.at_=p.root:=fun q hq x hx hf=>by
  have hl:=hb.lease q hq x hx
  simp only[forB,Bool.and_eq_true,beq_iff_eq]at hf
  unfold leaseOK at hl
  rw[hf.1,hf.2,hpo]at hl
  simp at hl
  exact⟨hl.1,hl.2.1.symm⟩
 by_cases h0:p.up=0
 ·refine⟨fun q=>q,?_,⟨fun q=>⟨rfl,rfl,rfl,rfl⟩,fun q hq=>(hb.mem q hq).2.1,fun q hq x hx=>⟨hb.lease q hq x hx,?_⟩,fun q hq x hx _=>hx,fun q hq x hx _=>hx,fun q hq id _ h=>h⟩⟩
  ·unfold closeL
   rw[h0,poolOf_zero hb,List.map_id']
  ·cases hf:forB p.id x with
   |false=>rfl
   |true=>
    have:=(hfor q hq x hx hf).1
    have:=idOK_bd (hb.mem q hq).1
    omega
 ·obtain⟨u,hu,hum,-,l,hlm,l1,l2,l3⟩:=up_lease hb hp h0
  have hui:=(poolOf_mem hu).2
  have hany:forB p.id l=true:=by simp[forB,l1,l2]
  cases hi:u.leases.findIdx? (forB p.id)with
  |none=>
   have:=List.findIdx?_eq_none_iff.1 hi l hlm
   rw[hany]at this;cases this
  |some i=>
   obtain⟨hlt,hg,-⟩:=List.findIdx?_eq_some_iff_getElem.1 hi
   have hget:u.leases[i]? =some u.leases[i]:=List.getElem?_eq_getElem hlt
   have key:∀q∈b.pools,(q.id==u.id)=true→q=u:=fun q hq he=>rise_uniq hb.rise hq hum (by simpa using he)
   refine⟨fun q=>if q.id==u.id then {q with leases:=coolL q i b.tick} else q,?_,⟨fun q=>?_,fun q hq=>?_,fun q hq x hx=>?_,fun q hq x hx hk=>?_,fun q hq x hx hk=>?_,fun q hq id hne ha=>?_⟩⟩
   ·unfold closeL
    rw[hu]
    simp only
    rw[hi]
    simp only
    unfold updB
    refine List.map_congr_left fun q hq=>?_
    cases he:q.id==u.id with
    |false=>rfl
    |true=>rw[key q hq he]
   ·split<;>exact⟨rfl,rfl,rfl,rfl⟩
   ·split
    ·rename_i he
     obtain rfl:=key q hq he
     exact chkS_sub (hb.mem q hq).2.1 (coolL_used hget _)
    ·exact(hb.mem q hq).2.1
   ·split at hx
    ·rename_i he
     obtain rfl:=key q hq he
     rcases coolL_mem hget hx with⟨j,hj,hxj⟩|⟨hc,rfl⟩
     ·have hxm:=List.mem_of_getElem? hxj
      refine⟨hb.lease q hq x hxm,?_⟩
      cases hf:forB p.id x with
      |false=>rfl
      |true=>
       exfalso
       have e1:=(hfor q hq x hxm hf).2
       have e2:=(hfor q hq _ (List.getElem_mem hlt) hg).2
       have hap:=(chkS_ok.1 (hb.mem q hq).2.1).apart
       have hrr:=(chkS_ok.1 (hb.mem p hp).2.1).rr
       have hbd:=Pfx.hi_bd hrr
       unfold usedP at hap
       rw[List.pairwise_map,List.pairwise_iff_getElem]at hap
       obtain⟨hjl,hje⟩:=List.getElem?_eq_some_iff.1 hxj
       rcases Nat.lt_or_gt_of_ne hj with h|h
       ·have:=hap j i hjl hlt h
        rw[hje,e1,e2]at this
        unfold Apart at this;omega
       ·have:=hap i j hlt hjl h
        rw[hje,e1,e2]at this
        unfold Apart at this;omega
     ·have:=rule_bd (hb.mem q hq).2.2
      refine⟨?_,by simp[forB]⟩
      rw[leaseOK_3 rfl]
      simp;omega
    ·refine⟨hb.lease q hq x hx,?_⟩
     rename_i he
     cases hf:forB p.id x with
     |false=>rfl
     |true=>
      have:=(hfor q hq x hx hf).1
      simp at he
      omega
   ·split at hx
    ·rename_i he
     obtain rfl:=key q hq he
     rcases coolL_mem hget hx with⟨j,hj,hxj⟩|⟨hc,rfl⟩
     ·exact List.mem_of_getElem? hxj
     ·exact absurd rfl hk
    ·exact hx
   ·split
    ·rename_i he
     obtain rfl:=key q hq he
     obtain⟨j,hj⟩:=List.mem_iff_getElem?.1 hx
     have hji:j≠i:=by
      rintro rfl
      rw[hget]at hj
      cases hj
      simp only[forB,Bool.and_eq_true,beq_iff_eq]at hg
      exact hk hg.1
     show x∈coolL q i b.tick
     rw[coolL_eq hget]
     split
     ·rcases Nat.lt_or_ge j i with hlt|hge
      ·exact List.mem_iff_getElem?.2 ⟨j,by rw[List.getElem?_eraseIdx,if_pos hlt];exact hj⟩
      ·exact List.mem_iff_getElem?.2 ⟨j - 1,by rw[List.getElem?_eraseIdx,if_neg (by omega),show j - 1+1=j by omega];exact hj⟩
     ·exact List.mem_iff_getElem?.2 ⟨j,by rw[List.getElem?_set,if_neg (fun e=>hji e.symm)];exact hj⟩
    ·exact hx
   ·split
    ·rename_i he
     obtain rfl:=key q hq he
     refine coolL_for2 hget _ _ ?_ ha
     simp only[forB,Bool.and_eq_true,beq_iff_eq]at hg
     simp only[forB,hg.1,hg.2]
     simpa using fun e=>hne e.symm
    ·exact ha
structure ClosP (b:Bok)(id:Int)(p:Pol)(f:Pol→Pol):Prop where
 bp:BookP b
 pool:poolOf b id=some p
 cold:∀l∈p.leases,l.kind=3
 hf:ClosF b p f
 is:(closeR b id).1=⟨b.tick,(b.pools.map f).filter fun q=>!(q.id==id)⟩
theorem close_inv {b:Bok}{id:Int}(h:(closeR b id).2=0):∃p f,ClosP b id p f:=by
 unfold closeR at h
 by_cases hc:chkBk b≠0
 ·rw[if_pos hc]at h;exact absurd h hc
 rw[if_neg hc]at h
 have hb:=bookP.1 (show chkBk b=0 by simpa using hc)
 cases hp:poolOf b id with
 |none=>rw[hp]at h;cases h
 |some p=>
  rw[hp]at h
  simp only at h
  by_cases h1:(p.leases.any fun l=>l.kind !=3)=true
  ·rw[if_pos h1]at h;cases h
  obtain⟨f,hf,hF⟩:=close_f hb (poolOf_mem hp).1
  refine⟨p,f,hb,hp,fun l hl=>?_,hF,?_⟩
  ·have h5:(p.leases.any fun l=>l.kind !=3)=false:=by simpa only[Bool.not_eq_true]using h1
   have:=List.any_eq_false.1 h5 l hl
   simpa using this
  ·unfold closeR
   rw[if_neg hc,hp]
   simp only
   rw[if_neg h1,hf]
theorem close_ok {b:Bok}{id:Int}{p:Pol}{f:Pol→Pol}(c:ClosP b id p f):BookP ⟨b.tick,(b.pools.map f).filter fun q=>!(q.id==id)⟩:=by
 have hb:=c.bp
 obtain⟨hpm,rfl⟩:=poolOf_mem c.pool
 have hF:=c.hf
 have hno:∀q∈b.pools,q.up≠p.id:=fun q hq e=>by
  have h0:q.up≠0:=by have:=idOK_bd (hb.mem p hpm).1;omega
  obtain⟨r,hr,hrm,-,l,hlm,l1,-,-⟩:=up_lease hb hq h0
  rw[e,c.pool]at hr
  cases hr
  have:=c.cold l hlm
  omega
 have hrm:Rise (b.pools.map f):=by
  unfold Rise
  rw[List.pairwise_map]
  exact hb.rise.imp fun {a c} h=>by rw[(hF.id a).1,(hF.id c).1];exact h
 have hr:Rise ((b.pools.map f).filter fun q=>!(q.id==p.id)):=hrm.filter _
 have hmem:∀q,q∈((b.pools.map f).filter fun q=>!(q.id==p.id))↔∃q'∈b.pools,q'.id≠p.id∧q=f q':=fun q=>by
  rw[List.mem_filter,List.mem_map]
  constructor
  ·rintro⟨⟨q',hq',rfl⟩,h⟩
   rw[(hF.id q').1]at h
   exact⟨q',hq',by simpa using h,rfl⟩
  ·rintro⟨q',hq',h,rfl⟩
   exact⟨⟨q',hq',rfl⟩,by rw[(hF.id q').1];simpa using h⟩
 have hkeep:∀q∈b.pools,q.id≠p.id→poolOf ⟨b.tick,(b.pools.map f).filter fun q=>!(q.id==p.id)⟩ q.id=some (f q):=fun q hq hi=>by
  have:=poolOf_rise (t:=b.tick) hr (p:=f q) ((hmem _).2 ⟨q,hq,hi,rfl⟩)
  rw[(hF.id q).1]at this;exact this
 have hlen:((b.pools.map f).filter fun q=>!(q.id==p.id)).length=(b.pools.filter fun q=>!(q.id==p.id)).length:=by
  rw[List.filter_map,List.length_map]
  refine congrArg _ (List.filter_congr fun q _=>?_)
  simp only[Function.comp,(hF.id q).1]
 refine⟨?_,hb.tick,hr,fun q hq=>?_,fun q hq=>?_,fun q hq l hl=>?_,?_⟩
 ·simp only[hlen]
  have:=List.length_filter_le (fun q:Pol=>!(q.id==p.id)) b.pools
  have:=hb.n8
  omega
 ·obtain⟨q',hq',hi,rfl⟩:=(hmem q).1 hq
  obtain⟨e1,e2,e3,e4⟩:=hF.id q'
  rw[e1,e3,e4]
  exact⟨(hb.mem q' hq').1,hF.chk q' hq',(hb.mem q' hq').2.2⟩
 ·obtain⟨q',hq',hi,rfl⟩:=(hmem q).1 hq
  simp only[hlen]
  refine upOK_to (b:=b) (S:=fun q=>q∈b.pools∧q.id≠p.id) (f:=f) (fun q _=>⟨(hF.id q).2.1,(hF.id q).1⟩) (fun q r hq h0 hr ha=>?_) _ q' ⟨hq',hi⟩ (up_short hb hpm hno hq' hi)
  obtain⟨hrm',hri⟩:=poolOf_mem hr
  have hne:r.id≠p.id:=by rw[hri];exact hno q hq.1
  exact⟨⟨hrm',hne⟩,by rw[←hri];exact hkeep r hrm' hne,hF.for_ r hrm' _ hq.2 ha⟩
 ·obtain⟨q',hq',hi,rfl⟩:=(hmem q).1 hq
  obtain⟨h1,h2⟩:=hF.lease q' hq' l hl
  refine leaseOK_to (b:=b) rfl (hF.id q').1 h1 fun hk r hr=>?_
  obtain⟨hrm',hri⟩:=poolOf_mem hr
  have hne:r.id≠p.id:=fun e=>by
   simp only[forB,hk,beq_self_eq_true,Bool.true_and]at h2
   simp at h2
   omega
  exact⟨f r,by rw[←hri];exact hkeep r hrm' hne,(hF.id r).2.1,(hF.id r).2.2.1⟩
 ·have hs:(((b.pools.map f).filter fun q=>!(q.id==p.id)).filter fun p=>p.up==0).Sublist ((b.pools.filter fun p=>p.up==0).map f):=by
   have e:((b.pools.map f).filter fun p=>p.up==0)=(b.pools.filter fun p=>p.up==0).map f:=by
    rw[List.filter_map]
    refine congrArg _ (List.filter_congr fun q _=>?_)
    simp only[Function.comp,(hF.id q).2.1]
   rw[←e]
   exact List.filter_sublist.filter _
  refine List.Pairwise.sublist hs ?_
  rw[List.pairwise_map]
  exact hb.tops.imp fun {a c} h=>by rw[(hF.id a).2.2.1,(hF.id c).2.2.1];exact h
def UserIn (b:Bok)(pid:Int)(a:Pfx)(o:Int):Prop:=∃p∈b.pools,p.id=pid∧∃l∈p.leases,l.kind=1∧l.at_=a∧l.owner=o
theorem open_users {b:Bok}{id:Int}{root:Pfx}{r:Rul}{pid:Int}{a:Pfx}{o:Int}:UserIn ⟨b.tick,insB ⟨id,0,root,r,[]⟩ b.pools⟩ pid a o↔UserIn b pid a o:=by
 constructor
 ·rintro⟨p,hp,h,l,hl,h2⟩
  rcases insK_mem.1 hp with rfl|hp
  ·simp at hl
  ·exact⟨p,hp,h,l,hl,h2⟩
 ·rintro⟨p,hp,h⟩
  exact⟨p,insK_mem.2 (.inr hp),h⟩
theorem nest_users {b:Bok}{id up:Int}{r:Rul}{q:Pfx}{pid:Int}{a:Pfx}{o:Int}:UserIn ⟨b.tick,insB ⟨id,up,q,r,[]⟩ (updB b up fun p=>{p with leases:=insL ⟨q,2,id,0⟩ p.leases}).pools⟩ pid a o↔UserIn b pid a o:=by
 constructor
 ·rintro⟨p,hp,h,l,hl,h2⟩
  rcases insK_mem.1 hp with rfl|hp
  ·simp at hl
  ·obtain⟨p',hp',rfl⟩:=List.mem_map.1 hp
   by_cases he:(p'.id==up)=true
   ·rw[if_pos he]at h hl
    rcases insL_mem.1 hl with rfl|hl
    ·exact absurd h2.1 (by simp)
    ·exact⟨p',hp',h,l,hl,h2⟩
   ·rw[if_neg he]at h hl
    exact⟨p',hp',h,l,hl,h2⟩
 ·rintro⟨p,hp,h,l,hl,h2⟩
  refine⟨_,insK_mem.2 (.inr (List.mem_map.2 ⟨p,hp,rfl⟩)),?_,l,?_,h2⟩
  ·split<;>exact h
  ·split
   ·exact insL_mem.2 (.inr hl)
   ·exact hl
theorem close_users {b:Bok}{id:Int}{p:Pol}{f:Pol→Pol}(c:ClosP b id p f){pid:Int}{a:Pfx}{o:Int}:UserIn ⟨b.tick,(b.pools.map f).filter fun q=>!(q.id==id)⟩ pid a o↔UserIn b pid a o:=by
 have hF:=c.hf
 constructor
 ·rintro⟨q,hq,h,l,hl,h2⟩
  obtain⟨q',hq',rfl⟩:=List.mem_map.1 (List.mem_filter.1 hq).1
  exact⟨q',hq',by rw[←h,(hF.id q').1],l,hF.old q' hq' l hl (by omega),h2⟩
 ·rintro⟨q,hq,h,l,hl,h2⟩
  refine⟨f q,List.mem_filter.2 ⟨List.mem_map.2 ⟨q,hq,rfl⟩,?_⟩,by rw[(hF.id q).1];exact h,l,hF.keep q hq l hl (by omega),h2⟩
  rw[(hF.id q).1]
  cases he:q.id==id with
  |false=>rfl
  |true=>
   obtain⟨hpm,hpi⟩:=poolOf_mem c.pool
   have:q=p:=rise_uniq c.bp.rise hq hpm (by rw[hpi];simpa using he)
   subst this
   have:=c.cold l hl
   omega
theorem pass_users {b:Bok}{t pid:Int}{a:Pfx}{o:Int}:UserIn ⟨t,b.pools.map (passP t)⟩ pid a o↔UserIn b pid a o:=by
 constructor
 ·rintro⟨q,hq,h,l,hl,h2⟩
  obtain⟨q',hq',rfl⟩:=List.mem_map.1 hq
  exact⟨q',hq',h,l,(List.mem_filter.1 hl).1,h2⟩
 ·rintro⟨q,hq,h,l,hl,h2⟩
  refine⟨passP t q,List.mem_map.2 ⟨q,hq,rfl⟩,h,l,List.mem_filter.2 ⟨hl,?_⟩,h2⟩
  simp[overB,h2.1]
theorem take_users2 {b:Bok}{id size owner:Int}{p:Pol}{s:Int}{q:Pfx}(t:TakeP b id size owner p s q){pid:Int}{a:Pfx}{o:Int}:
 UserIn (updB b id fun p=>{p with leases:=insL ⟨q,1,owner,0⟩ p.leases}) pid a o↔UserIn b pid a o∨(pid=id∧a=q∧o=owner):=by
 obtain⟨hpm,hpi⟩:=poolOf_mem t.pool
 constructor
 ·rintro⟨r,hr,h,l,hl,h2⟩
  obtain⟨r',hr',rfl⟩:=List.mem_map.1 hr
  by_cases he:(r'.id==id)=true
  ·rw[if_pos he]at h hl
   rcases insL_mem.1 hl with rfl|hl
   ·right
    have he:r'.id=id:=by simpa using he
    exact⟨by rw[←he];exact h.symm,h2.2.1.symm,h2.2.2.symm⟩
   ·exact .inl ⟨r',hr',h,l,hl,h2⟩
  ·rw[if_neg he]at h hl
   exact .inl ⟨r',hr',h,l,hl,h2⟩
 ·rintro (⟨r,hr,h,l,hl,h2⟩|⟨rfl,rfl,rfl⟩)
  ·refine⟨_,List.mem_map.2 ⟨r,hr,rfl⟩,?_,l,?_,h2⟩
   ·split<;>exact h
   ·split
    ·exact insL_mem.2 (.inr hl)
    ·exact hl
  ·refine⟨_,List.mem_map.2 ⟨p,hpm,rfl⟩,?_,⟨a,1,o,0⟩,?_,rfl,rfl,rfl⟩
   ·split<;>exact hpi
   ·rw[if_pos (by simpa using hpi)]
    exact insL_mem.2 (.inl rfl)
theorem give_users {b:Bok}{id:Int}{at_:Pfx}{p:Pol}{i:Nat}{l:Lse}(g:GiveP b id at_ p i l){pid:Int}{a:Pfx}{o:Int}:
 UserIn (updB b id fun p=>{p with leases:=coolL p i b.tick}) pid a o↔UserIn b pid a o∧¬(pid=id∧a=at_):=by
 have hb:=g.bp
 obtain⟨hpm,hpi⟩:=poolOf_mem g.pool
 have key:∀q∈b.pools,(q.id==id)=true→q=p:=fun q hq he=>rise_uniq hb.rise hq hpm (by rw[hpi];simpa using he)
 have hap:∀j x,j≠i→p.leases[j]? =some x→x.at_≠at_:=fun j x hj hx e=>by
  obtain⟨hlt,hl⟩:=List.getElem?_eq_some_iff.1 g.get
  obtain⟨hjl,hje⟩:=List.getElem?_eq_some_iff.1 hx
  have hsp:=chkS_ok.1 (hb.mem p hpm).2.1
  have hap:=hsp.apart
  have hin:=hsp.ins _ (List.mem_map.2 ⟨l,List.mem_of_getElem? g.get,rfl⟩)
  have hbd:=Pfx.hi_bd (insQ_hi.1 hin).1
  rw[g.user.2]at hbd
  unfold usedP at hap
  rw[List.pairwise_map,List.pairwise_iff_getElem]at hap
  rcases Nat.lt_or_gt_of_ne hj with h|h
  ·have:=hap j i hjl hlt h
   rw[hje,hl,g.user.2,e]at this
   unfold Apart at this;omega
  ·have:=hap i j hlt hjl h
   rw[hje,hl,g.user.2,e]at this
   unfold Apart at this;omega
 constructor
 ·rintro⟨r,hr,h,x,hx,h2⟩
  obtain⟨r',hr',rfl⟩:=List.mem_map.1 hr
  by_cases he:(r'.id==id)=true
  ·rw[if_pos he]at h hx
   obtain rfl:=key r' hr' he
   rcases coolL_mem g.get hx with⟨j,hj,hxj⟩|⟨hc,rfl⟩
   ·refine⟨⟨r',hr',h,x,List.mem_of_getElem? hxj,h2⟩,fun e=>hap j x hj hxj ?_⟩
    rw[h2.2.1];exact e.2
   ·exact absurd h2.1 (by simp)
  ·rw[if_neg he]at h hx
   exact⟨⟨r',hr',h,x,hx,h2⟩,fun e=>he (by rw[h,e.1];simp)⟩
 ·rintro⟨⟨r,hr,h,x,hx,h2⟩,hn⟩
  refine⟨_,List.mem_map.2 ⟨r,hr,rfl⟩,?_,x,?_,h2⟩
  ·split<;>exact h
  ·split
   ·rename_i he
    obtain rfl:=key r hr he
    have hne:x.at_≠at_:=fun e=>hn ⟨by rw[←h];exact hpi,by rw[←h2.2.1];exact e⟩
    obtain⟨j,hj⟩:=List.mem_iff_getElem?.1 hx
    have hji:j≠i:=by
     rintro rfl
     rw[g.get]at hj
     cases hj
     exact hne g.user.2
    show x∈coolL r i b.tick
    rw[coolL_eq g.get]
    split
    ·rcases Nat.lt_or_ge j i with hlt|hge
     ·exact List.mem_iff_getElem?.2 ⟨j,by rw[List.getElem?_eraseIdx,if_pos hlt];exact hj⟩
     ·exact List.mem_iff_getElem?.2 ⟨j - 1,by rw[List.getElem?_eraseIdx,if_neg (by omega),show j - 1+1=j by omega];exact hj⟩
    ·exact List.mem_iff_getElem?.2 ⟨j,by rw[List.getElem?_set,if_neg (fun e=>hji e.symm)];exact hj⟩
   ·exact hx
theorem user_one {b:Bok}(hb:BookP b){pid:Int}{a:Pfx}{o o':Int}(h:UserIn b pid a o)(h':UserIn b pid a o'):o=o':=by
 obtain⟨p,hp,h1,l,hl,h2,h3,h4⟩:=h
 obtain⟨p',hp',h1',l',hl',h2',h3',h4'⟩:=h'
 obtain rfl:=rise_uniq hb.rise hp hp' (by omega)
 have hbd:=Pfx.hi_bd (insQ_hi.1 (lease_in hb hp hl)).1
 have:l=l':=leases_one hb hp hl hl' (x:=l.at_.at_) ⟨Int.le_refl _,by omega⟩ (by rw[h3',←h3];exact⟨Int.le_refl _,by omega⟩)
 rw[←h4,←h4',this]
def subA (s:Sbn):List Int:=s.faces.flatMap (·.addrs)
def addrsV (v:Vpc):List Int:=v.subs.flatMap subA
def cntV (v:Vpc)(x:Int):Nat:=(addrsV v).count x
theorem map_same {α β:Type}{f:α→β}{pre post:List α}{s s':α}(h:f s'=f s):(pre++s'::post).map f=(pre++s::post).map f:=by simp[h]
theorem vpcOK_set {v:Vpc}(h:VpcOK v){pre post:List Sbn}{s s':Sbn}(hv:v.subs=pre++s::post)(h1:s'.id=s.id)(h2:s'.at_=s.at_)(h3:facesB s'=true)(h4:s'.faces.length≤8∧∀f∈s'.faces,f.addrs.length≤4):VpcOK {v with subs:=pre++s'::post}:=by
 have hmem:∀t∈pre++s'::post,t=s'∨t∈v.subs:=fun t ht=>by
  rw[hv]
  simp only[List.mem_append,List.mem_cons]at ht ⊢
  rcases ht with h|h|h
  ·exact .inr (.inl h)
  ·exact .inl h
  ·exact .inr (.inr (.inr h))
 have hsm:s∈v.subs:=by rw[hv];simp
 refine⟨h.n4,?_,fun t ht=>?_,h.id,h.rr,?_,h.ranges,fun t ht=>?_,h.ar,?_⟩
 ·have:=h.n6
  rw[hv]at this
  simpa using this
 ·rcases hmem t ht with rfl|ht
  ·exact h4
  ·exact h.n8 t ht
 ·have:=h.rs
  rw[hv,←List.pairwise_map (f:=fun s:Sbn=>s.id) (R:=fun a b:Int=>a < b)]at this
  show (pre++s'::post).Pairwise fun a b=>a.id < b.id
  rw[←List.pairwise_map (f:=fun s:Sbn=>s.id) (R:=fun a b:Int=>a < b),map_same (f:=fun s:Sbn=>s.id) h1]
  exact this
 ·rcases hmem t ht with rfl|ht
  ·have:=h.subs s hsm
   unfold subB at this ⊢
   rw[h1,h2,h3]
   simp only[Bool.and_eq_true,Bool.and_true]at this ⊢
   exact⟨this.1,this.2.1⟩
  ·exact h.subs t ht
 ·have:=h.as_
  rw[hv]at this
  show apaF [] ((pre++s'::post).map (·.at_))=true
  rw[map_same (f:=fun s:Sbn=>s.at_) h2]
  exact this
theorem addr_new {v:Vpc}(h:VpcOK v){pre post:List Sbn}{s:Sbn}(hv:v.subs=pre++s::post){a:Int}(hi:innB s.at_ a=true)(hn:a∉subA s):cntV v a=0:=by
 have hsm:s∈v.subs:=by rw[hv];simp
 have hh:∀{p:Pfx}{x:Int},innB p x=true→p.right=true∧p.at_≤x∧x < p.hi:=fun {p x} hx=>by
  unfold innB at hx
  simp only[Bool.and_eq_true]at hx
  exact holdB_iff.1 (by rw[←holdP_eq];exact hx.1)
 have hs1:=hh hi
 unfold cntV addrsV
 rw[List.count_eq_zero]
 intro hm
 obtain⟨t,ht,hat⟩:=List.mem_flatMap.1 hm
 have key:t≠s→t.at_.meets s.at_=true→False:=by
  intro hne hme
  have hp:=apaF_nil.1 h.as_
  rw[List.pairwise_map]at hp
  rw[hv,List.pairwise_append,List.pairwise_cons]at hp
  rw[hv]at ht
  simp only[List.mem_append,List.mem_cons]at ht
  have sym:∀p q:Pfx,p.meets q=true→q.meets p=true:=fun p q h=>by
   rw[meets_iff]at h ⊢;exact⟨h.2.1,h.1,h.2.2.2,h.2.2.1⟩
  rcases ht with ht|ht|ht
  ·have:=hp.2.2 t ht s (by simp)
   rw[sym _ _ hme]at this;cases this
  ·exact hne ht
  ·have:=hp.2.1.1 t ht
   rw[hme]at this;cases this
 by_cases hts:t=s
 ·subst hts;exact hn hat
 ·obtain⟨f,hf,haf⟩:=List.mem_flatMap.1 hat
  have hfb:=(sub_right h ht).2.2.2 f hf
  unfold faceB at hfb
  simp only[Bool.and_eq_true,List.all_eq_true]at hfb
  have ht1:=hh (hfb.2.2.2 a haf)
  exact key hts (meets_iff.2 ⟨ht1.1,hs1.1,by omega,by omega⟩)
theorem cnt_more {v:Vpc}{pre post:List Sbn}{s s':Sbn}{a:Int}(hv:v.subs=pre++s::post)(hp:(subA s').Perm (a::subA s)):cntV {v with subs:=pre++s'::post} a=cntV v a+1:=by
 unfold cntV addrsV
 rw[hv]
 simp only[List.flatMap_append,List.flatMap_cons,List.count_append]
 rw[hp.count_eq,List.count_cons_self]
 omega
theorem face_new {v:Vpc}(h:VpcOK v){s:Sbn}(hs:s∈v.subs){id a:Int}(he:faceErr s id=0)(ha:leastS s=some a):
 let s':Sbn:={s with faces:=insK (·.id) ⟨id,[a]⟩ s.faces}
 innB s.at_ a=true∧a∉subA s∧(subA s').Perm (a::subA s)∧facesB s'=true∧(s'.faces.length≤8∧∀f∈s'.faces,f.addrs.length≤4)∧∀f∈s.faces,f.id≠id:=by
 intro s'
 obtain⟨s1,s2,s3,s4⟩:=sub_right h hs
 have h8:=h.n8 s hs
 have hln:=leastF_not (show leastF _ _ _ _=some a from ha)
 unfold faceErr at he
 have e1:idOK id=true:=by
  by_cases hb:idOK id=false
  ·rw[if_pos hb]at he;cases he
  ·simpa using hb
 rw[if_neg (by simp[e1])]at he
 have e2:(s.faces.any fun f=>f.id==id)=false:=by
  by_cases hb:(s.faces.any fun f=>f.id==id)=true
  ·rw[if_pos hb]at he;cases he
  ·simpa using hb
 rw[if_neg (by simp[e2])]at he
 have e3:s.faces.length≠8:=fun hb=>by rw[if_pos hb]at he;cases he
 have hne:∀f∈s.faces,f.id≠id:=fun f hf e=>by
  have:=List.any_eq_false.1 e2 f hf
  simp at this;exact this e
 have hpm:=insK_perm (fun f:Fce=>f.id) ⟨id,[a]⟩ s.faces
 have hp2:(subA s').Perm (a::subA s):=by
  have:=hpm.flatMap_right (f:=fun f:Fce=>f.addrs)
  refine this.trans ?_
  rw[List.flatMap_append]
  simp only[List.flatMap_cons,List.flatMap_nil,List.append_nil]
  exact List.perm_append_comm
 refine⟨hln.2,hln.1,hp2,?_,⟨?_,fun f hf=>?_⟩,hne⟩
 ·unfold facesB
  simp only[Bool.and_eq_true,List.all_eq_true,decide_eq_true_eq,risB_pair]
  refine⟨fun f hf=>?_,?_,insK_sorted s3 hne⟩
  ·rcases insK_mem.1 hf with rfl|hf
   ·unfold faceB
    simp[e1,risB,hln.2,s']
   ·exact s4 f hf
  ·exact(hp2.nodup_iff).2 (List.nodup_cons.2 ⟨hln.1,s2⟩)
 ·show (insK _ _ s.faces).length≤8
  rw[insK_len];have:=h8.1;omega
 ·rcases insK_mem.1 hf with rfl|hf
  ·show 1≤4;omega
  ·exact h8.2 f hf
theorem more_new {v:Vpc}(h:VpcOK v){s:Sbn}(hs:s∈v.subs){preF postF:List Fce}{f:Fce}(hfv:s.faces=preF++f::postF){a:Int}(h4:f.addrs.length≠4)(ha:leastS s=some a):
 let s':Sbn:={s with faces:=preF++{f with addrs:=insK (fun x=>x) a f.addrs}::postF}
 innB s.at_ a=true∧a∉subA s∧(subA s').Perm (a::subA s)∧facesB s'=true∧(s'.faces.length≤8∧∀f∈s'.faces,f.addrs.length≤4):=by
 intro s'
 obtain⟨s1,s2,s3,s4⟩:=sub_right h hs
 have h8:=h.n8 s hs
 have hln:=leastF_not (show leastF _ _ _ _=some a from ha)
 have hfm:f∈s.faces:=by rw[hfv];simp
 have hfb:=s4 f hfm
 unfold faceB at hfb
 simp only[Bool.and_eq_true,List.all_eq_true,risB_pair]at hfb
 have hna:a∉f.addrs:=fun hm=>hln.1 (List.mem_flatMap.2 ⟨f,hfm,hm⟩)
 have hp2:(subA s').Perm (a::subA s):=by
  unfold subA
  rw[hfv]
  simp only[s',List.flatMap_append,List.flatMap_cons]
  have h1:(insK (fun x:Int=>x) a f.addrs).Perm (a::f.addrs):=(insK_perm _ _ _).trans List.perm_append_comm
  have h2:=(h1.append_right (postF.flatMap (·.addrs))).append_left (preF.flatMap (·.addrs))
  exact h2.trans (by rw[List.cons_append];exact List.perm_middle)
 have hmem:∀g∈s'.faces,g={f with addrs:=insK (fun x=>x) a f.addrs}∨g∈s.faces:=fun g hg=>by
  rw[hfv]
  simp only[s',List.mem_append,List.mem_cons]at hg ⊢
  rcases hg with h|h|h
  ·exact .inr (.inl h)
  ·exact .inl h
  ·exact .inr (.inr (.inr h))
 refine⟨hln.2,hln.1,hp2,?_,⟨?_,fun g hg=>?_⟩⟩
 ·unfold facesB
  simp only[Bool.and_eq_true,List.all_eq_true,decide_eq_true_eq]
  refine⟨fun g hg=>?_,?_,?_⟩
  ·rcases hmem g hg with rfl|hg
   ·unfold faceB
    simp only[Bool.and_eq_true,List.all_eq_true,risB_pair]
    refine⟨hfb.1,?_,insK_sorted hfb.2.2.1 (fun y hy e=>hna (e ▸ hy)),fun x hx=>?_⟩
    ·rw[insK_len];simp;omega
    ·rcases insK_mem.1 hx with rfl|hx
     ·exact hln.2
     ·exact hfb.2.2.2 x hx
   ·exact s4 g hg
  ·exact(hp2.nodup_iff).2 (List.nodup_cons.2 ⟨hln.1,s2⟩)
  ·rw[risB_pair]
   rw[hfv,←List.pairwise_map (f:=fun f:Fce=>f.id) (R:=fun a b:Int=>a < b)]at s3
   show (preF++{f with addrs:=insK (fun x=>x) a f.addrs}::postF).Pairwise fun a b=>a.id < b.id
   rw[←List.pairwise_map (f:=fun f:Fce=>f.id) (R:=fun a b:Int=>a < b),map_same (f:=fun f:Fce=>f.id) (s:=f) (s':={f with addrs:=insK (fun x=>x) a f.addrs}) rfl]
   exact s3
 ·have:=h8.1
  rw[hfv]at this
  simpa[s']using this
 ·rcases hmem g hg with rfl|hg
  ·show (insK _ _ f.addrs).length≤4
   rw[insK_len];have:=h8.2 f hfm;omega
  ·exact h8.2 g hg
theorem find_same {pre post:List Sbn}{s s':Sbn}{sub:Int}(h:s'.id=s.id):(pre++s'::post).findIdx? (fun s=>s.id==sub)=(pre++s::post).findIdx? (fun s=>s.id==sub):=by
 have e:∀l:List Sbn,l.findIdx? (fun s=>s.id==sub)=(l.map (·.id)).findIdx? (fun i=>i==sub):=fun l=>by rw[List.findIdx?_map];rfl
 rw[e,e,map_same (f:=fun s:Sbn=>s.id) h]
theorem insK_find {l:List Fce}{id:Int}{al:List Int}(hne:∀f∈l,f.id≠id):(insK (fun f:Fce=>f.id) ⟨id,al⟩ l).findIdx? (fun f=>f.id==id)=some (lbN (fun f:Fce=>f.id) id l)∧(insK (fun f:Fce=>f.id) ⟨id,al⟩ l).eraseIdx (lbN (fun f:Fce=>f.id) id l)=l:=by
 have hle:=lbN_le (fun f:Fce=>f.id) id l
 have hl:(l.take (lbN (fun f:Fce=>f.id) id l)).length=lbN (fun f:Fce=>f.id) id l:=by rw[List.length_take];omega
 unfold insK
 show ((l.take (lbN (fun f:Fce=>f.id) id l)++⟨id,al⟩::l.drop (lbN (fun f:Fce=>f.id) id l)).findIdx? _=_)∧(l.take (lbN (fun f:Fce=>f.id) id l)++⟨id,al⟩::l.drop (lbN (fun f:Fce=>f.id) id l)).eraseIdx _=l
 generalize lbN (fun f:Fce=>f.id) id l=n at*
 constructor
 ·rw[List.findIdx?_append,show (l.take n).findIdx? (fun f=>f.id==id)=none from by
   rw[List.findIdx?_eq_none_iff]
   intro f hf
   have:=hne f (List.mem_of_mem_take hf)
   simpa using this]
  simp[List.findIdx?_cons,hl]
 ·rw[List.eraseIdx_append_of_length_le (by omega),hl,Nat.sub_self]
  simp
theorem faceV_inv {v:Vpc}{sub id:Int}(h:(faceV v sub id).2.2=0):∃pre s post a,VpcOK v∧v.subs=pre++s::post∧v.subs.findIdx? (fun s=>s.id==sub)=some pre.length∧faceErr s id=0∧leastS s=some a∧
 faceV v sub id=({v with subs:=pre++{s with faces:=insK (·.id) ⟨id,[a]⟩ s.faces}::post},a,0):=by
 unfold faceV at h ⊢
 by_cases hc:chkV v=0
 ·rw[if_neg (by simpa using hc)]at h ⊢
  have hk:=vpcOK_of hc
  cases hf:v.subs.findIdx? (fun s=>s.id==sub)with
  |none=>rw[hf]at h;simp at h
  |some i=>
   obtain⟨pre,s,post,hv,hpl,-,hs⟩:=find_split hf
   rw[hf]at h
   simp only[hs]at h ⊢
   by_cases he:faceErr s id=0
   ·have he2:=he
    unfold faceErr at he2
    obtain⟨a,ha⟩:∃a,leastS s=some a:=by
     cases hl:leastS s with
     |some a=>exact⟨a,rfl⟩
     |none=>
      rw[hl]at he2
      simp at he2
      split at he2<;>(try cases he2)
      split at he2<;>(try cases he2)
      split at he2<;>cases he2
    refine⟨pre,s,post,a,hk,hv,by rw[hpl],he,ha,?_⟩
    rw[if_neg (by simpa using he),ha,Option.getD_some]
    rw[hv,←hpl,List.set_append_right _ _ (Nat.le_refl _),Nat.sub_self,List.set_cons_zero]
   ·rw[if_pos (by simpa using he)]at h
    exact absurd h he
 ·rw[if_pos (by simpa using hc)]at h
  exact absurd h hc
theorem moreV_inv {v:Vpc}{sub id:Int}(h:(moreV v sub id).2.2=0):∃pre s post preF f postF a,VpcOK v∧v.subs=pre++s::post∧s.faces=preF++f::postF∧f.addrs.length≠4∧leastS s=some a∧
 moreV v sub id=({v with subs:=pre++{s with faces:=preF++{f with addrs:=insK (fun x=>x) a f.addrs}::postF}::post},a,0):=by
 unfold moreV at h ⊢
 by_cases hc:chkV v=0
 ·rw[if_neg (by simpa using hc)]at h ⊢
  have hk:=vpcOK_of hc
  cases hf:v.subs.findIdx? (fun s=>s.id==sub)with
  |none=>rw[hf]at h;simp at h
  |some i=>
   obtain⟨pre,s,post,hv,hpl,-,hs⟩:=find_split hf
   rw[hf]at h
   simp only[hs]at h ⊢
   cases hg:s.faces.findIdx? (fun f=>f.id==id)with
   |none=>rw[hg]at h;simp at h
   |some k=>
    obtain⟨preF,f,postF,hfv,hplF,-,hfs⟩:=find_split hg
    rw[hg]at h
    simp only[hfs]at h ⊢
    by_cases h4:f.addrs.length=4
    ·rw[if_pos h4]at h;simp at h
    ·rw[if_neg h4]at h ⊢
     cases hl:leastS s with
     |none=>rw[hl]at h;simp at h
     |some a=>
      refine⟨pre,s,post,preF,f,postF,a,hk,hv,hfv,h4,hl,?_⟩
      simp only
      rw[hv,←hpl,List.set_append_right _ _ (Nat.le_refl _),Nat.sub_self,List.set_cons_zero]
      rw[hfv,←hplF,List.set_append_right _ _ (Nat.le_refl _),Nat.sub_self,List.set_cons_zero]
 ·rw[if_pos (by simpa using hc)]at h
  exact absurd h hc
theorem face_law {v:Vpc}{sub id:Int}(h:(faceV v sub id).2.2=0):VpcOK v∧cntV v (faceV v sub id).2.1=0∧VpcOK (faceV v sub id).1∧cntV (faceV v sub id).1 (faceV v sub id).2.1=1∧unfaceV (faceV v sub id).1 sub id=(v,0):=by
 obtain⟨pre,s,post,a,hk,hv,hfi,he,ha,heq⟩:=faceV_inv h
 have hsm:s∈v.subs:=by rw[hv];simp
 obtain⟨n1,n2,n3,n4,n5,n6⟩:=face_new hk hsm he ha
 have hk2:=vpcOK_set hk hv (s':={s with faces:=insK (·.id) ⟨id,[a]⟩ s.faces}) rfl rfl n4 n5
 have hc0:=addr_new hk hv n1 n2
 rw[heq]
 refine⟨hk,hc0,hk2,by rw[cnt_more hv n3,hc0],?_⟩
 obtain⟨q1,q2⟩:=insK_find (al:=[a]) n6
 unfold unfaceV
 rw[if_neg (by simpa using vpcOK_to hk2)]
 simp only
 rw[find_same (s:=s) (s':={s with faces:=insK (·.id) ⟨id,[a]⟩ s.faces}) rfl,←hv,hfi]
 simp only
 rw[List.getElem?_append_right (Nat.le_refl _),Nat.sub_self,List.getElem?_cons_zero]
 simp only[q1,q2]
 rw[List.set_append_right _ _ (Nat.le_refl _),Nat.sub_self,List.set_cons_zero,←hv]
theorem more_law {v:Vpc}{sub id:Int}(h:(moreV v sub id).2.2=0):VpcOK v∧cntV v (moreV v sub id).2.1=0∧VpcOK (moreV v sub id).1∧cntV (moreV v sub id).1 (moreV v sub id).2.1=1:=by
 obtain⟨pre,s,post,preF,f,postF,a,hk,hv,hfv,h4,ha,heq⟩:=moreV_inv h
 have hsm:s∈v.subs:=by rw[hv];simp
 obtain⟨n1,n2,n3,n4,n5⟩:=more_new hk hsm hfv h4 ha
 have hk2:=vpcOK_set hk hv (s':={s with faces:=preF++{f with addrs:=insK (fun x=>x) a f.addrs}::postF}) rfl rfl n4 n5
 have hc0:=addr_new hk hv n1 n2
 rw[heq]
 exact⟨hk,hc0,hk2,by rw[cnt_more hv n3,hc0]⟩
theorem join_ok {n:Net}{a b:Int}(hok:NetOK n)(h:joinErr n a b=0):NetOK {n with links:=insK lkey (lnk a b) n.links}∧lnk a b∉n.links∧(findN n a).isSome=true∧(findN n b).isSome=true∧a≠b:=by
 have h0:=h
 unfold joinErr at h
 by_cases hab:a=b
 ·rw[if_pos hab]at h;cases h
 rw[if_neg hab]at h
 by_cases hf:findN n a=none∨findN n b=none
 ·rw[if_pos hf]at h;cases h
 rw[if_neg hf]at h
 by_cases hin:lnk a b∈n.links
 ·rw[if_pos hin]at h;cases h
 rw[if_neg hin]at h
 cases hp:peaceN {n with links:=insK lkey (lnk a b) n.links} with
 |false=>rw[if_pos hp]at h;cases h
 |true=>
 rw[if_neg (by simp[hp])]at h
 by_cases h12:n.links.length+1>12
 ·rw[if_pos h12]at h;cases h
 have hfa:(findN n a).isSome=true:=by rw[Option.isSome_iff_ne_none];exact fun e=>hf (.inl e)
 have hfb:(findN n b).isSome=true:=by rw[Option.isSome_iff_ne_none];exact fun e=>hf (.inr e)
 have hlk:lnkB n (lnk a b)=true:=by
  unfold lnkB
  rcases lnk_cases a b with⟨e,h⟩|⟨e,h⟩
  ·rw[e];simp only[hfa,hfb,Bool.true_and,decide_eq_true_eq];omega
  ·rw[e];simp only[hfa,hfb,Bool.true_and,decide_eq_true_eq];omega
 have hlb:∀l∈n.links,1≤l.b∧l.b≤65536:=fun l hl=>hok.bd (hok.ids l hl).2
 have hlkb:1≤(lnk a b).b∧(lnk a b).b≤65536:=by
  unfold lnkB at hlk
  simp only[Bool.and_eq_true]at hlk
  exact hok.bd (find_ids hlk.2.1)
 have hso:=insK_sorted (key:=lkey) hok.lsort (x:=lnk a b) fun y hy e=>hin (by rw[←lkey_inj (hlb y hy) hlkb e];exact hy)
 refine⟨⟨hok.n6,by show (insK _ _ n.links).length≤12;rw[insK_len];omega,hok.vp,hok.rise,fun l hl=>?_,?_,hp⟩,hin,hfa,hfb,hab⟩
 ·rcases insK_mem.1 hl with rfl|hl
  ·exact hlk
  ·exact hok.lk l hl
 ·show risK (insK lkey (lnk a b) n.links)=true
  have hb2:∀l∈insK lkey (lnk a b) n.links,1≤l.b∧l.b≤65536:=fun l hl=>by
   rcases insK_mem.1 hl with rfl|hl
   ·exact hlkb
   ·exact hlb l hl
  rw[risK_at]
  intro j hj
  have:=List.pairwise_iff_getElem.1 hso j (j+1) (by omega) hj (by omega)
  rw[ordK_key (hb2 _ (List.getElem_mem _)) (hb2 _ (List.getElem_mem _))]
  unfold cmpI
  rw[if_pos this]
  decide
structure KeepV (v w:Vpc):Prop where
 ok:VpcOK w
 id:w.id=v.id
 ranges:w.ranges=v.ranges
theorem subV_keep {v:Vpc}{id:Int}{p:Pfx}(h:(subV v id p).2=0):KeepV v (subV v id p).1:=by
 unfold subV at h ⊢
 by_cases hc:chkV v≠0
 ·rw[if_pos hc]at h;exact absurd h hc
 rw[if_neg hc]at h ⊢
 have hk:=vpcOK_of (show chkV v=0 by simpa using hc)
 by_cases he:subErr v id p≠0
 ·rw[if_pos he]at h;exact absurd h he
 rw[if_neg he]
 have he:subErr v id p=0:=by simpa using he
 clear h
 unfold subErr at he
 split at he
 ·cases he
 rename_i h1
 split at he
 ·cases he
 rename_i h2
 split at he
 ·cases he
 rename_i h3
 have h1:=not_or.1 h1
 have g1:idOK id=true:=by simpa using h1.1
 have g2:holdsV v p=true:=by simpa using h1.2
 have g3:∀s∈v.subs,s.id≠id∧s.at_.meets p=false:=fun s hs=>by
  have h5:(v.subs.any fun s=>(s.id==id)||s.at_.meets p)=false:=by simpa only[Bool.not_eq_true]using h2
  have:=List.any_eq_false.1 h5 s hs
  simpa using this
 refine⟨⟨hk.n4,?_,fun s hs=>?_,hk.id,hk.rr,insK_sorted hk.rs fun s hs=>(g3 s hs).1,hk.ranges,fun s hs=>?_,hk.ar,?_⟩,rfl,rfl⟩
 ·simp only[insK_len];have:=hk.n6;omega
 ·rcases insK_mem.1 hs with rfl|hs
  ·exact⟨by simp,fun f hf=>by simp at hf⟩
  ·exact hk.n8 s hs
 ·rcases insK_mem.1 hs with rfl|hs
  ·unfold subB
   have:facesB ⟨id,p,[]⟩=true:=by simp[facesB,risB]
   rw[this]
   simp only[Bool.and_eq_true,Bool.and_true]
   exact⟨g1,g2⟩
  ·exact hk.subs s hs
 ·rw[apaF_nil]
  have hp:((insK (fun x:Sbn=>x.id) ⟨id,p,[]⟩ v.subs).map (·.at_)).Perm (p::v.subs.map (·.at_)):=by
   refine((insK_perm (fun x:Sbn=>x.id) ⟨id,p,[]⟩ v.subs).map (·.at_)).trans ?_
   rw[List.map_append]
   exact List.perm_append_singleton _ _
  refine(List.Perm.pairwise_iff (R:=fun a b:Pfx=>b.meets a=false) (fun {a b} hab=>by rw[meets_comm];exact hab) hp).2 ?_
  rw[List.pairwise_cons]
  refine⟨fun a ha=>?_,apaF_nil.1 hk.as_⟩
  obtain⟨q,hq,rfl⟩:=List.mem_map.1 ha
  exact(g3 q hq).2
theorem unsubV_keep {v:Vpc}{id:Int}(h:(unsubV v id).2=0):KeepV v (unsubV v id).1:=by
 unfold unsubV at h ⊢
 by_cases hc:chkV v≠0
 ·rw[if_pos hc]at h;exact absurd h hc
 rw[if_neg hc]at h ⊢
 have hk:=vpcOK_of (show chkV v=0 by simpa using hc)
 cases hf:v.subs.findIdx? (fun s=>s.id==id)with
 |none=>rw[hf]at h;cases h
 |some i=>
  rw[hf]at h
  simp only at h ⊢
  by_cases h1:(v.subs[i]?.map fun s=>s.faces.length)≠some 0
  ·rw[if_pos h1]at h;cases h
  rw[if_neg h1]
  have hs:(v.subs.eraseIdx i).Sublist v.subs:=List.eraseIdx_sublist _ _
  exact⟨⟨hk.n4,Nat.le_trans hs.length_le hk.n6,fun s hm=>hk.n8 s (hs.subset hm),hk.id,hk.rr,hk.rs.sublist hs,hk.ranges,fun s hm=>hk.subs s (hs.subset hm),hk.ar,apaF_nil.2 ((apaF_nil.1 hk.as_).sublist (hs.map _))⟩,rfl,rfl⟩
theorem faceV_keep {v:Vpc}{sub id:Int}(h:(faceV v sub id).2.2=0):KeepV v (faceV v sub id).1:=by
 obtain⟨-,-,h3,-,-⟩:=face_law h
 obtain⟨pre,s,post,a,-,-,-,-,-,heq⟩:=faceV_inv h
 refine⟨h3,?_,?_⟩<;>rw[heq]
theorem moreV_keep {v:Vpc}{sub id:Int}(h:(moreV v sub id).2.2=0):KeepV v (moreV v sub id).1:=by
 obtain⟨-,-,h3,-⟩:=more_law h
 obtain⟨pre,s,post,preF,f,postF,a,-,-,-,-,-,heq⟩:=moreV_inv h
 refine⟨h3,?_,?_⟩<;>rw[heq]
theorem flat_sub {α β:Type}{g:α→List β}{l m:List α}(h:l.Sublist m):(l.flatMap g).Sublist (m.flatMap g):=by
 induction h with
 |slnil=>exact List.Sublist.refl _
 |cons a _ ih=>rw[List.flatMap_cons];exact ih.trans (List.sublist_append_right _ _)
 |cons_cons a _ ih=>rw[List.flatMap_cons,List.flatMap_cons];exact(List.Sublist.refl _).append ih
theorem unfaceV_keep {v:Vpc}{sub id:Int}(h:(unfaceV v sub id).2=0):KeepV v (unfaceV v sub id).1:=by
 unfold unfaceV at h ⊢
 by_cases hc:chkV v≠0
 ·rw[if_pos hc]at h;exact absurd h hc
 rw[if_neg hc]at h ⊢
 have hk:=vpcOK_of (show chkV v=0 by simpa using hc)
 cases hf:v.subs.findIdx? (fun s=>s.id==sub)with
 |none=>rw[hf]at h;cases h
 |some i=>
  obtain⟨pre,s,post,hv,hpl,-,hs⟩:=find_split hf
  rw[hf]at h
  simp only[hs]at h ⊢
  cases hg:s.faces.findIdx? (fun f=>f.id==id)with
  |none=>rw[hg]at h;cases h
  |some k=>
   simp only
   have hsm:s∈v.subs:=List.mem_of_getElem? hs
   obtain⟨s1,s2,s3,s4⟩:=sub_right hk hsm
   have hsl:(s.faces.eraseIdx k).Sublist s.faces:=List.eraseIdx_sublist _ _
   have h8:=hk.n8 s hsm
   have:=vpcOK_set hk hv (s':={s with faces:=s.faces.eraseIdx k}) rfl rfl (by
    unfold facesB
    simp only[Bool.and_eq_true,List.all_eq_true,risB_pair,decide_eq_true_eq]
    exact⟨fun f hf=>s4 f (hsl.subset hf),s2.sublist (flat_sub hsl),s3.sublist hsl⟩) ⟨Nat.le_trans hsl.length_le h8.1,fun f hf=>h8.2 f (hsl.subset hf)⟩
   have he:v.subs.set i {s with faces:=s.faces.eraseIdx k}=pre++{s with faces:=s.faces.eraseIdx k}::post:=by
    rw[hv,←hpl,List.set_append_right _ _ (Nat.le_refl _),Nat.sub_self,List.set_cons_zero]
   rw[he]
   exact⟨this,rfl,rfl⟩
structure DropP (v:Vpc)(p:Pfx)(r:Rng)(w:Vpc):Prop where
 ok:VpcOK v
 okw:VpcOK w
 mem:r∈v.ranges
 at_:r.at_=p
 id:w.id=v.id
 ranges:∀x,x∈w.ranges↔x∈v.ranges∧x≠r
 is:(dropV v p).1=w
 res:(dropV v p).2.1=r
theorem range_at {v:Vpc}(hk:VpcOK v){r q:Rng}(hr:r∈v.ranges)(hq:q∈v.ranges)(h:r.at_.at_=q.at_.at_):r=q:=by
 obtain⟨i,hi,rfl⟩:=List.mem_iff_getElem.1 hr
 obtain⟨j,hj,rfl⟩:=List.mem_iff_getElem.1 hq
 have hp:=List.pairwise_iff_getElem.1 hk.rr
 rcases Nat.lt_trichotomy i j with h1|h1|h1
 ·have:=hp i j hi hj h1;omega
 ·subst h1;rfl
 ·have:=hp j i hj hi h1;omega
theorem dropV_inv {v:Vpc}{p:Pfx}(h:(dropV v p).2.2=0):∃r w,DropP v p r w:=by
 unfold dropV at h
 by_cases hc:chkV v≠0
 ·rw[if_pos hc]at h;exact absurd h hc
 rw[if_neg hc]at h
 have hk:=vpcOK_of (show chkV v=0 by simpa using hc)
 cases hf:v.ranges.findIdx? (fun r=>decide (r.at_=p))with
 |none=>rw[hf]at h;cases h
 |some i=>
  rw[hf]at h
  simp only at h
  by_cases h1:(v.subs.any fun s=>insQ s.at_ p)=true
  ·rw[if_pos h1]at h;cases h
  obtain⟨hlt,hg,-⟩:=List.findIdx?_eq_some_iff_getElem.1 hf
  have hg:v.ranges[i].at_=p:=of_decide_eq_true hg
  have e:dropV v p=({v with ranges:=v.ranges.eraseIdx i},v.ranges[i],0):=by
   unfold dropV
   rw[if_neg hc,hf]
   simp only
   rw[if_neg h1]
   simp[List.getD_eq_getElem?_getD,hlt]
  have hs:(v.ranges.eraseIdx i).Sublist v.ranges:=List.eraseIdx_sublist _ _
  have hmem:∀x,x∈v.ranges.eraseIdx i↔x∈v.ranges∧x≠v.ranges[i]:=fun x=>by
   rw[List.mem_eraseIdx_iff_getElem]
   constructor
   ·rintro⟨j,hj,hji,rfl⟩
    refine⟨List.getElem_mem hj,fun e=>?_⟩
    have hp:=List.pairwise_iff_getElem.1 hk.rr
    rcases Nat.lt_or_gt_of_ne hji with h|h
    ·have:=hp j i hj hlt h;rw[e]at this;omega
    ·have:=hp i j hlt hj h;rw[e]at this;omega
   ·rintro⟨hx,hne⟩
    obtain⟨j,hj,rfl⟩:=List.mem_iff_getElem.1 hx
    exact⟨j,hj,fun e=>by subst e;exact hne rfl,rfl⟩
  refine⟨v.ranges[i],{v with ranges:=v.ranges.eraseIdx i},hk,⟨Nat.le_trans hs.length_le hk.n4,hk.n6,hk.n8,hk.id,hk.rr.sublist hs,hk.rs,fun r hr=>hk.ranges r (hs.subset hr),fun s hsm=>?_,apaF_nil.2 ((apaF_nil.1 hk.ar).sublist (hs.map _)),hk.as_⟩,List.getElem_mem hlt,hg,rfl,hmem,by rw[e],by rw[e]⟩
  have h4:=hk.subs s hsm
  unfold subB at h4 ⊢
  simp only[Bool.and_eq_true]at h4 ⊢
  refine⟨h4.1,?_,h4.2.2⟩
  have h5:=h4.2.1
  unfold holdsV at h5 ⊢
  obtain⟨q,hq,h6⟩:=List.any_eq_true.1 h5
  refine List.any_eq_true.2 ⟨q,(hmem q).2 ⟨hq,fun e=>?_⟩,h6⟩
  rw[e,hg]at h6
  exact h1 (List.any_eq_true.2 ⟨s,hsm,h6⟩)
theorem growV_ranges {v:Vpc}{r:Rng}(h:(growV v r).2=0):(growV v r).1.id=v.id∧∀x,x∈(growV v r).1.ranges↔x=r∨x∈v.ranges:=by
 unfold growV at h ⊢
 by_cases hc:chkV v≠0
 ·rw[if_pos hc]at h;exact absurd h hc
 rw[if_neg hc]at h ⊢
 by_cases he:growE v r≠0
 ·rw[if_pos he]at h;exact absurd h he
 rw[if_neg he]
 exact⟨rfl,fun x=>insK_mem⟩
theorem net_set {n:Net}(hok:NetOK n){i:Nat}{v w:Vpc}(hv:n.vpcs[i]? =some v)(hw:VpcOK w)(hid:w.id=v.id)(hs:∀r∈w.ranges,r∈v.ranges):NetOK {n with vpcs:=n.vpcs.set i w}:=by
 obtain⟨hi,hve⟩:=List.getElem?_eq_some_iff.1 hv
 have hids:(n.vpcs.set i w).map (·.id)=n.vpcs.map (·.id):=by
  rw[List.map_set,hid]
  apply List.ext_getElem?
  intro j
  rw[List.getElem?_set]
  split
  ·rename_i hj
   subst hj
   rw[List.length_map,if_pos hi,List.getElem?_map,hv];rfl
  ·rfl
 have hvp:∀u∈n.vpcs.set i w,chkV u=0:=fun u hu=>by
  rcases List.mem_or_eq_of_mem_set hu with hu|rfl
  ·exact hok.vp u hu
  ·exact vpcOK_to hw
 have hri:(n.vpcs.set i w).Pairwise fun a b=>a.id < b.id:=by
  have h1:=hok.rise
  rw[←List.pairwise_map (f:=fun v:Vpc=>v.id) (R:=fun a b:Int=>a < b)]at h1 ⊢
  rw[hids];exact h1
 have hfi:∀x,(findN {n with vpcs:=n.vpcs.set i w} x).isSome=(findN n x).isSome:=fun x=>by
  have key:∀l:List Vpc,(l.find? fun v=>v.id==x).isSome=decide (x∈l.map (·.id)):=fun l=>by
   induction l with
   |nil=>simp
   |cons a l ih=>
    rw[List.find?_cons]
    split
    ·rename_i h;simp at h;simp[h]
    ·rename_i h
     rw[ih]
     simp at h
     simp
     exact fun e=>absurd e.symm h
  unfold findN
  simp only
  rw[key,key,hids]
 have hlk:∀l∈n.links,lnkB {n with vpcs:=n.vpcs.set i w} l=true:=fun l hl=>by
  have:=hok.lk l hl
  unfold lnkB at this ⊢
  rw[hfi,hfi];exact this
 refine⟨by simp;exact hok.n6,hok.n12,hvp,hri,hlk,hok.rk,?_⟩
 have hold:∀(j:Nat) (u:Vpc),(n.vpcs.set i w)[j]? =some u→∃u':Vpc,n.vpcs[j]? =some u'∧u.id=u'.id∧∀r∈u.ranges,r∈u'.ranges:=fun j u hu=>by
  rw[List.getElem?_set]at hu
  split at hu
  ·rename_i hj
   subst hj
   (try rw[if_pos hi]at hu)
   cases hu
   exact⟨v,hv,hid,hs⟩
  ·exact⟨u,hu,rfl,fun r hr=>hr⟩
 refine peace_good (n:={n with vpcs:=n.vpcs.set i w}) fun k a b ha hb=>?_
 obtain⟨j,hj⟩:=List.mem_iff_getElem?.1 hb
 rw[List.getElem?_take]at hj
 split at hj
 case isFalse=>cases hj
 rename_i hjk
 obtain⟨a',ha',ea,ra⟩:=hold k a ha
 obtain⟨b',hb',eb,rb⟩:=hold j b hj
 cases hf:foeN {n with vpcs:=n.vpcs.set i w} a b with
 |false=>rfl
 |true=>
  exfalso
  unfold foeN at hf
  rw[Bool.and_eq_true,headN_eq]at hf
  have hc:clashV a' b'=true:=by
   have:=hf.2
   unfold clashV at this ⊢
   obtain⟨r,hr,h⟩:=List.any_eq_true.1 this
   obtain⟨q,hq,h⟩:=List.any_eq_true.1 h
   exact List.any_eq_true.2 ⟨r,ra r hr,List.any_eq_true.2 ⟨q,rb q hq,h⟩⟩
  have:=peace_bad (n:=n) hjk ha' hb' (by
   unfold foeN
   rw[hc,headN_eq,←ea,←eb,Bool.and_true]
   exact hf.1)
  rw[hok.pe]at this;cases this
theorem makeN_inv {n:Net}{id:Int}(h:(makeN n id).2=0):NetOK n∧idOK id=true∧findN n id=none∧n.vpcs.length≠6∧(makeN n id).1={n with vpcs:=insK (·.id) ⟨id,[],[]⟩ n.vpcs}:=by
 unfold makeN at h ⊢
 by_cases hc:chkT n≠0
 ·rw[if_pos hc]at h;exact absurd h hc
 rw[if_neg hc]at h ⊢
 have hok:=netOK.1 (show chkT n=0 by simpa using hc)
 by_cases he:makeErr n id≠0
 ·rw[if_pos he]at h;exact absurd h he
 rw[if_neg he]
 have he:makeErr n id=0:=by simpa using he
 clear h
 unfold makeErr at he
 split at he
 ·cases he
 rename_i h1
 split at he
 ·cases he
 rename_i h2
 split at he
 ·cases he
 rename_i h3
 exact⟨hok,by simpa using h1,by simpa using h2,h3,rfl⟩
theorem make_ok {n:Net}{id:Int}(hok:NetOK n)(hid:idOK id=true)(hno:findN n id=none)(h6:n.vpcs.length≠6):NetOK {n with vpcs:=insK (·.id) ⟨id,[],[]⟩ n.vpcs}:=by
 have hne:=findN_none hno
 have hfi:∀x,(findN n x).isSome=true→(findN {n with vpcs:=insK (·.id) ⟨id,[],[]⟩ n.vpcs} x).isSome=true:=fun x hx=>by
  unfold findN at hx ⊢
  rw[List.find?_isSome]at hx ⊢
  obtain⟨v,hv,he⟩:=hx
  exact⟨v,insK_mem.2 (.inr hv),he⟩
 refine⟨?_,hok.n12,fun v hv=>?_,insK_sorted hok.rise hne,fun l hl=>?_,hok.rk,?_⟩
 ·show (insK (fun x:Vpc=>x.id) ⟨id,[],[]⟩ n.vpcs).length≤6
  rw[insK_len];have:=hok.n6;omega
 ·rcases insK_mem.1 hv with rfl|hv
  ·refine vpcOK_to ⟨by simp,by simp,fun s hs=>by simp at hs,hid,List.Pairwise.nil,List.Pairwise.nil,fun r hr=>by simp at hr,fun s hs=>by simp at hs,rfl,rfl⟩
  ·exact hok.vp v hv
 ·have:=hok.lk l hl
  unfold lnkB at this ⊢
  simp only[Bool.and_eq_true]at this ⊢
  exact⟨hfi _ this.1,hfi _ this.2.1,this.2.2⟩
 ·have hsort:=insK_sorted (key:=fun v:Vpc=>v.id) (x:=⟨id,[],[]⟩) hok.rise hne
  refine peace_good (n:={n with vpcs:=insK (·.id) ⟨id,[],[]⟩ n.vpcs}) fun k a b ha hb=>?_
  have hab:=rise_ne (n:={n with vpcs:=insK (·.id) ⟨id,[],[]⟩ n.vpcs}) hsort ha hb
  have ham:=insK_mem.1 (List.mem_of_getElem? ha)
  have hbm:=insK_mem.1 (List.mem_of_mem_take hb)
  unfold foeN
  rcases ham with rfl|ham
  ·rw[show clashV ⟨id,[],[]⟩ b=false from rfl,Bool.and_false]
  ·rcases hbm with rfl|hbm
   ·rw[clashV_comm,show clashV ⟨id,[],[]⟩ a=false from rfl,Bool.and_false]
   ·obtain⟨i,hi⟩:=List.mem_iff_getElem?.1 ham
    obtain⟨j,hj⟩:=List.mem_iff_getElem?.1 hbm
    cases hf:headN {n with vpcs:=insK (·.id) ⟨id,[],[]⟩ n.vpcs} a.id==headN {n with vpcs:=insK (·.id) ⟨id,[],[]⟩ n.vpcs} b.id&&clashV a b with
    |false=>rfl
    |true=>
     have:=peace_war (n:=n) (i:=i) (j:=j) (fun e=>by subst e;rw[hi]at hj;cases hj;exact hab rfl) hi hj (by
      unfold foeN
      rw[headN_eq]at hf ⊢
      exact hf)
     rw[hok.pe]at this;cases this
theorem heads_sub {L M:List Lnk}(h:∀l∈L,l∈M){x y:Int}(e:heads L x=heads L y):heads M x=heads M y:=
 (heads_sound (S:=fun z=>heads M z=heads M y) (L:=L) (fun l hl=>by rw[heads_link (h l hl)]) e).2 rfl
theorem part_ok {n:Net}(hok:NetOK n)(i:Nat):NetOK {n with links:=n.links.eraseIdx i}:=by
 have hs:(n.links.eraseIdx i).Sublist n.links:=List.eraseIdx_sublist _ _
 have hlb:∀l∈n.links,1≤l.b∧l.b≤65536:=fun l hl=>hok.bd (hok.ids l hl).2
 refine⟨hok.n6,Nat.le_trans hs.length_le hok.n12,hok.vp,hok.rise,fun l hl=>hok.lk l (hs.subset hl),?_,?_⟩
 ·show risK (n.links.eraseIdx i)=true
  have hso:=hok.lsort.sublist hs
  rw[risK_at]
  intro j hj
  have:=List.pairwise_iff_getElem.1 hso j (j+1) (by omega) hj (by omega)
  rw[ordK_key (hlb _ (hs.subset (List.getElem_mem _))) (hlb _ (hs.subset (List.getElem_mem _)))]
  unfold cmpI
  rw[if_pos this]
  decide
 ·refine peace_good (n:={n with links:=n.links.eraseIdx i}) fun k a b ha hb=>?_
  have hab:=rise_ne (n:={n with links:=n.links.eraseIdx i}) hok.rise ha hb
  obtain⟨j,hj⟩:=List.mem_iff_getElem?.1 (List.mem_of_mem_take hb)
  unfold foeN
  cases hf:headN {n with links:=n.links.eraseIdx i} a.id==headN {n with links:=n.links.eraseIdx i} b.id&&clashV a b with
  |false=>rfl
  |true=>
   rw[Bool.and_eq_true,beq_iff_eq,headN_eq]at hf
   have:=peace_war (n:=n) (i:=k) (j:=j) (fun e=>by subst e;rw[ha]at hj;cases hj;exact hab rfl) ha hj (by
    unfold foeN
    rw[Bool.and_eq_true,beq_iff_eq,headN_eq]
    exact⟨heads_sub (fun l hl=>hs.subset hl) hf.1,hf.2⟩)
   rw[hok.pe]at this;cases this
theorem partN_inv {n:Net}{a b:Int}(h:(partN n a b).2=0):NetOK n∧∃i,(partN n a b).1={n with links:=n.links.eraseIdx i}:=by
 unfold partN at h ⊢
 by_cases hc:chkT n≠0
 ·rw[if_pos hc]at h;exact absurd h hc
 rw[if_neg hc]at h ⊢
 refine⟨netOK.1 (show chkT n=0 by simpa using hc),?_⟩
 cases hf:n.links.findIdx? (fun l=>decide (lnk a b=l))with
 |none=>rw[hf]at h;cases h
 |some i=>exact⟨i,rfl⟩
theorem joinN_inv {n:Net}{a b:Int}(h:(joinN n a b).2=0):NetOK n∧NetOK (joinN n a b).1∧(joinN n a b).1.vpcs=n.vpcs:=by
 unfold joinN at h ⊢
 by_cases hc:chkT n≠0
 ·rw[if_pos hc]at h;exact absurd h hc
 rw[if_neg hc]at h ⊢
 have hok:=netOK.1 (show chkT n=0 by simpa using hc)
 by_cases he:joinErr n a b≠0
 ·rw[if_pos he]at h;exact absurd h he
 rw[if_neg he]
 exact⟨hok,(join_ok hok (by simpa using he)).1,rfl⟩
theorem growN_inv {n:Net}{id:Int}{r:Rng}(h:(growN n id r).2=0):NetOK n∧∃i v,n.vpcs[i]? =some v∧v.id=id∧(growV v r).2=0∧(growN n id r).1={n with vpcs:=n.vpcs.set i (growV v r).1}∧NetOK {n with vpcs:=n.vpcs.set i (growV v r).1}:=by
 unfold growN at h ⊢
 by_cases hc:chkT n≠0
 ·rw[if_pos hc]at h;exact absurd h hc
 rw[if_neg hc]at h ⊢
 have hok:=netOK.1 (show chkT n=0 by simpa using hc)
 refine⟨hok,?_⟩
 cases hx:vpcIx n id with
 |none=>rw[hx]at h;cases h
 |some i=>
  obtain⟨v,hv,hvi,-,-⟩:=vpcIx_some hx
  rw[hx]at h
  simp only[hv]at h ⊢
  by_cases hg:(growV v r).2≠0
  ·rw[if_pos hg]at h;exact absurd h hg
  rw[if_neg hg]at h ⊢
  have hg:(growV v r).2=0:=by simpa using hg
  by_cases hp:peaceN {n with vpcs:=n.vpcs.set i (growV v r).1}=true
  ·rw[if_pos hp]
   exact⟨i,v,hv,hvi,hg,rfl,netOK.1 ((grown_chk hok hv hg).1.2 hp)⟩
  ·rw[if_neg hp]at h;cases h
structure SiteP (s:Ste):Prop where
 bp:BookP s.book
 nk:NetOK s.net
 has:∀v∈s.net.vpcs,∀r∈v.ranges,UserIn s.book r.pool r.at_ v.id
 all:∀pid a o,UserIn s.book pid a o→∀v∈s.net.vpcs,v.id=o→(⟨a,pid⟩:Rng)∈v.ranges
theorem pfx_eq {a b:Pfx}(h1:a.at_=b.at_)(h2:a.len=b.len):a=b:=by
 cases a;cases b;simp only at h1 h2;rw[h1,h2]
theorem user_mem {b:Bok}{pid:Int}{a:Pfx}{o:Int}:([a.at_,a.len,pid],o)∈usLst b↔UserIn b pid a o:=by
 rw[us_mem]
 constructor
 ·rintro⟨p,hp,l,hl,h1,h2,h3⟩
  simp only[List.cons.injEq,and_true]at h2
  exact⟨p,hp,h2.2.2.symm,l,hl,h1,(pfx_eq h2.1 h2.2.1).symm,h3.symm⟩
 ·rintro⟨p,hp,h1,l,hl,h2,h3,h4⟩
  exact⟨p,hp,l,hl,h2,by rw[h1,h3],h4.symm⟩
theorem lsB_iff {b:Bok}(hb:BookOK b){id:Int}{r:Rng}:lsB b id r=true↔UserIn b r.pool r.at_ id:=by
 rw[←user_mem,←lkE_mem (usLst_keys hb),←usE_eq hb,lk_lease hb]
 unfold lsB
 cases leaseAtR b r.pool r.at_ with
 |none=>simp
 |some l=>simp
theorem siteP {s:Ste}:chkSt s=0↔SiteP s:=by
 rw[chkSt_ref]
 constructor
 ·intro h
  by_cases h1:chkBk s.book≠0
  ·rw[if_pos h1]at h;exact absurd h h1
  rw[if_neg h1]at h
  by_cases h2:chkT s.net≠0
  ·rw[if_pos h2]at h;exact absurd h h2
  rw[if_neg h2]at h
  have hb0:chkBk s.book=0:=by simpa using h1
  have hb:=bookOK hb0
  have hn:=netOK.1 (show chkT s.net=0 by simpa using h2)
  by_cases h3:(refA s&&refB s)=true
  ·rw[Bool.and_eq_true]at h3
   refine⟨bookP.1 hb0,hn,fun v hv r hr=>(lsB_iff hb).1 (List.all_eq_true.1 (List.all_eq_true.1 h3.1 v hv) r hr),?_⟩
   rintro pid a o ⟨p,hp,rfl,l,hl,h4,rfl,rfl⟩ v hv hvo
   have h5:=List.all_eq_true.1 (List.all_eq_true.1 h3.2 p hp) l hl
   unfold usB at h5
   rw[h4]at h5
   simp only[beq_self_eq_true,Bool.not_true,Bool.false_or]at h5
   cases hf:s.net.vpcs.find? (·.id==l.owner)with
   |none=>exact absurd hvo (by simpa using List.find?_eq_none.1 hf v hv)
   |some w=>
    rw[hf]at h5
    obtain⟨r,hr,he⟩:=List.any_eq_true.1 h5
    have he:r=⟨l.at_,p.id⟩:=by simpa using he
    have hwi:w.id=l.owner:=by have:=List.find?_some hf;simpa using this
    have:w=v:=vpc_uniq hn.rise (List.mem_of_find?_eq_some hf) hv (by omega)
    subst this
    rw[←he];exact hr
  ·rw[if_neg h3]at h;cases h
 ·intro h
  have hb0:=bookP.2 h.bp
  have hb:=bookOK hb0
  rw[if_neg (by simpa using hb0),if_neg (by simpa using netOK.2 h.nk),if_pos]
  rw[Bool.and_eq_true]
  constructor
  ·exact List.all_eq_true.2 fun v hv=>List.all_eq_true.2 fun r hr=>(lsB_iff hb).2 (h.has v hv r hr)
  ·refine List.all_eq_true.2 fun p hp=>List.all_eq_true.2 fun l hl=>?_
   unfold usB
   by_cases h4:l.kind=1
   ·rw[h4]
    simp only[beq_self_eq_true,Bool.not_true,Bool.false_or]
    cases hf:s.net.vpcs.find? (·.id==l.owner)with
    |none=>rfl
    |some w=>
     have hwi:w.id=l.owner:=by have:=List.find?_some hf;simpa using this
     exact List.any_eq_true.2 ⟨_,h.all p.id l.at_ l.owner ⟨p,hp,rfl,l,hl,h4,rfl,rfl⟩ w (List.mem_of_find?_eq_some hf) hwi,by simp⟩
   ·simp[h4]
theorem siteP_zero:SiteP .zero:=by
 refine⟨bookP.1 (by decide),netOK.1 (by decide),fun v hv=>?_,?_⟩
 ·simp[Ste.zero]at hv
 ·rintro pid a o ⟨p,hp,-⟩
  simp[Ste.zero]at hp
theorem site_book {s:Ste}(h:SiteP s){b:Bok}(hb:BookP b)(hu:∀pid a o,UserIn b pid a o↔UserIn s.book pid a o):SiteP ⟨b,s.net⟩:=
 ⟨hb,h.nk,fun v hv r hr=>(hu ..).2 (h.has v hv r hr),fun pid a o hx=>h.all pid a o ((hu ..).1 hx)⟩
theorem pool_right {s:Ste}(h:SiteP s){c:Cmd}(h0:(bookS s.book s.net.vpcs c).2.err=0):SiteP ⟨(bookS s.book s.net.vpcs c).1,s.net⟩:=by
 unfold bookS at h0 ⊢
 by_cases h1:c.op=1
 ·rw[if_pos h1]at h0 ⊢
  have o:=open_inv (show (openR s.book c.a c.at_ c.rule).2=0 from h0)
  simp only[o.is]
  exact site_book h (open_ok o) fun _ _ _=>open_users
 rw[if_neg h1]at h0 ⊢
 by_cases h2:c.op=2
 ·rw[if_pos h2]at h0 ⊢
  obtain⟨p,q,n⟩:=nest_inv (show (nestR s.book c.a c.b c.c c.rule).2.2=0 from h0)
  simp only[n.is]
  exact site_book h (nest_ok n) fun _ _ _=>nest_users
 rw[if_neg h2]at h0 ⊢
 by_cases h3:c.op=3
 ·rw[if_pos h3]at h0 ⊢
  obtain⟨p,f,cl⟩:=close_inv (show (closeR s.book c.a).2=0 from h0)
  simp only[cl.is]
  exact site_book h (close_ok cl) fun _ _ _=>close_users cl
 rw[if_neg h3]at h0 ⊢
 by_cases h4:c.op=4
 ·rw[if_pos h4]at h0 ⊢
  obtain⟨hb,k1,k2,is⟩:=pass_inv (show (passR s.book c.a).2=0 from h0)
  simp only[is]
  exact site_book h (pass_ok hb k1 k2) fun _ _ _=>pass_users
 rw[if_neg h4]at h0 ⊢
 by_cases h5:c.op=5
 ·rw[if_pos h5]at h0 ⊢
  by_cases hh:heldB s.net.vpcs c.c=true
  ·rw[if_pos hh]at h0;cases h0
  rw[if_neg hh]at h0 ⊢
  obtain⟨p,z,q,t⟩:=take_inv (show (takeR s.book c.a c.b c.c).2.2=0 from h0)
  simp only[t.is]
  refine⟨take_ok t,h.nk,fun v hv r hr=>(take_users2 t).2 (.inl (h.has v hv r hr)),fun pid a o hx v hv hvo=>?_⟩
  rcases(take_users2 t).1 hx with hx|⟨-,-,e⟩
  ·exact h.all pid a o hx v hv hvo
  ·exact absurd (List.any_eq_true.2 ⟨v,hv,by simp[hvo,e]⟩) hh
 rw[if_neg h5]at h0 ⊢
 by_cases h6:c.op=6
 ·rw[if_pos h6]at h0 ⊢
  by_cases hh:rngIn s.net.vpcs ⟨c.at_,c.a⟩=true
  ·rw[if_pos hh]at h0;cases h0
  rw[if_neg hh]at h0 ⊢
  obtain⟨p,i,l,g⟩:=give_inv (show (giveR s.book c.a c.at_).2=0 from h0)
  simp only[g.is]
  refine⟨give_ok g,h.nk,fun v hv r hr=>(give_users g).2 ⟨h.has v hv r hr,?_⟩,fun pid a o hx v hv hvo=>h.all pid a o ((give_users g).1 hx).1 v hv hvo⟩
  rintro⟨e1,e2⟩
  refine hh (List.any_eq_true.2 ⟨v,hv,List.any_eq_true.2 ⟨r,hr,?_⟩⟩)
  rw[decide_eq_true_eq,←e1,←e2]
 ·rw[if_neg h6]
  exact h
theorem net_right {s:Ste}(h:SiteP s){c:Cmd}(h0:(netS s.book s.net c).2.err=0):SiteP ⟨s.book,(netS s.book s.net c).1⟩:=by
 have hb:=bookOK (bookP.2 h.bp)
 unfold netS at h0 ⊢
 by_cases h7:c.op=7
 ·rw[if_pos h7]at h0 ⊢
  by_cases hw:ownsB (usE s.book) c.a=true
  ·rw[if_pos hw]at h0;cases h0
  rw[if_neg hw]at h0 ⊢
  obtain⟨k1,k2,k3,k4,is⟩:=makeN_inv (show (makeN s.net c.a).2=0 from h0)
  simp only[is]
  refine⟨h.bp,make_ok k1 k2 k3 k4,fun v hv r hr=>?_,fun pid a o hx v hv hvo=>?_⟩
  ·rcases insK_mem.1 hv with rfl|hv
   ·simp at hr
   ·exact h.has v hv r hr
  ·rcases insK_mem.1 hv with rfl|hv
   ·exfalso
    refine hw ?_
    rw[usE_eq hb]
    exact List.any_eq_true.2 ⟨_,user_mem.2 hx,by simpa using hvo.symm⟩
   ·exact h.all pid a o hx v hv hvo
 rw[if_neg h7]at h0 ⊢
 by_cases h15:c.op=15
 ·rw[if_pos h15]at h0 ⊢
  obtain⟨k1,k2,k3⟩:=joinN_inv (show (joinN s.net c.a c.b).2=0 from h0)
  exact⟨h.bp,k2,by simp only[k3];exact h.has,by simp only[k3];exact h.all⟩
 rw[if_neg h15]at h0 ⊢
 obtain⟨k1,i,is⟩:=partN_inv (show (partN s.net c.a c.b).2=0 from h0)
 simp only[is]
 exact⟨h.bp,part_ok k1 i,h.has,h.all⟩
theorem mem_set {α:Type}{l:List α}{i:Nat}{v w x:α}(hv:l[i]? =some v)(hn:l.Nodup):x∈l.set i w↔x=w∨(x∈l∧x≠v):=by
 obtain⟨hi,rfl⟩:=List.getElem?_eq_some_iff.1 hv
 constructor
 ·intro h
  obtain⟨j,hj⟩:=List.mem_iff_getElem?.1 h
  rw[List.getElem?_set]at hj
  split at hj
  ·rename_i e
   (try rw[if_pos hi]at hj)
   exact .inl (Option.some.inj hj).symm
  ·rename_i e
   obtain⟨hjl,rfl⟩:=List.getElem?_eq_some_iff.1 hj
   refine .inr ⟨List.getElem_mem hjl,fun e2=>?_⟩
   exact e ((List.getElem_inj hn).1 e2).symm
 ·rintro (rfl|⟨h,hne⟩)
  ·exact List.mem_iff_getElem?.2 ⟨i,by rw[List.getElem?_set,if_pos rfl,if_pos hi]⟩
  ·obtain⟨j,hj,rfl⟩:=List.mem_iff_getElem.1 h
   exact List.mem_iff_getElem?.2 ⟨j,by rw[List.getElem?_set,if_neg (fun e=>by subst e;exact hne rfl),List.getElem?_eq_getElem hj]⟩
theorem vpcs_nodup {n:Net}(h:NetOK n):n.vpcs.Nodup:=h.rise.imp fun h e=>by rw[e]at h;omega
theorem site_keep {s:Ste}(h:SiteP s){i:Nat}{v w:Vpc}(hv:s.net.vpcs[i]? =some v)(k:KeepV v w):SiteP ⟨s.book,{s.net with vpcs:=s.net.vpcs.set i w}⟩:=by
 have hvm:=List.mem_of_getElem? hv
 refine⟨h.bp,net_set h.nk hv k.ok k.id fun r hr=>by rw[←k.ranges];exact hr,fun x hx r hr=>?_,fun pid a o hu x hx hxo=>?_⟩
 ·rcases(mem_set hv (vpcs_nodup h.nk)).1 hx with rfl|⟨hx,-⟩
  ·rw[k.id];rw[k.ranges]at hr;exact h.has v hvm r hr
  ·exact h.has x hx r hr
 ·rcases(mem_set hv (vpcs_nodup h.nk)).1 hx with rfl|⟨hx,-⟩
  ·rw[k.ranges];rw[k.id]at hxo;exact h.all pid a o hu v hvm hxo
  ·exact h.all pid a o hu x hx hxo
theorem inner_right {s:Ste}(h:SiteP s){c:Cmd}{i:Nat}{v:Vpc}(hv:s.net.vpcs[i]? =some v)(hvi:v.id=c.a)(h0:(innerV s.book s.net c i v).2.2.err=0):SiteP ⟨(innerV s.book s.net c i v).1,(innerV s.book s.net c i v).2.1⟩:=by
 have hvm:=List.mem_of_getElem? hv
 have hnd:=vpcs_nodup h.nk
 unfold innerV at h0 ⊢
 by_cases h8:c.op=8
 ·rw[if_pos h8]at h0 ⊢
  by_cases ht:(takeR s.book c.b c.c c.a).2.2=0
  ·rw[if_pos ht]at h0 ⊢
   obtain⟨p,z,q,t⟩:=take_inv ht
   rw[t.res]at h0 ⊢
   obtain⟨k1,j,u,hu,hui,hg,is,k2⟩:=growN_inv (show (growN s.net c.a ⟨q,c.b⟩).2=0 from h0)
   simp only[t.is,is]
   obtain⟨g1,g2⟩:=growV_ranges hg
   have hum:=List.mem_of_getElem? hu
   refine⟨take_ok t,k2,fun x hx r hr=>?_,fun pid a o hx x hxm hxo=>?_⟩
   ·rcases(mem_set hu hnd).1 hx with rfl|⟨hx,-⟩
    ·rw[g1]
     rcases(g2 r).1 hr with rfl|hr
     ·exact(take_users2 t).2 (.inr ⟨rfl,rfl,hui⟩)
     ·exact(take_users2 t).2 (.inl (h.has u hum r hr))
    ·exact(take_users2 t).2 (.inl (h.has x hx r hr))
   ·rcases(mem_set hu hnd).1 hxm with rfl|⟨hxm,hne⟩
    ·rw[g1]at hxo
     rcases(take_users2 t).1 hx with hx|⟨rfl,rfl,-⟩
     ·exact(g2 _).2 (.inr (h.all pid a o hx u hum hxo))
     ·exact(g2 _).2 (.inl rfl)
    ·rcases(take_users2 t).1 hx with hx|⟨-,-,rfl⟩
     ·exact h.all pid a o hx x hxm hxo
     ·exact absurd (vpc_uniq h.nk.rise hxm hum (by omega)) hne
  ·rw[if_neg ht]at h0
   exact absurd h0 ht
 rw[if_neg h8]at h0 ⊢
 by_cases h9:c.op=9
 ·rw[if_pos h9]at h0 ⊢
  by_cases hd:(dropV v c.at_).2.2=0
  ·rw[if_pos hd]at h0 ⊢
   obtain⟨r,w,d⟩:=dropV_inv hd
   rw[d.is,d.res]at h0 ⊢
   obtain⟨p,k,l,g⟩:=give_inv (show (giveR s.book r.pool r.at_).2=0 from h0)
   simp only[g.is]
   have hus:=h.has v hvm r d.mem
   refine⟨give_ok g,net_set h.nk hv d.okw d.id fun x hx=>((d.ranges x).1 hx).1,fun x hx y hy=>?_,fun pid a o hx x hxm hxo=>?_⟩
   ·rcases(mem_set hv hnd).1 hx with rfl|⟨hx,hne⟩
    ·rw[d.id]
     obtain⟨y1,y2⟩:=(d.ranges y).1 hy
     refine(give_users g).2 ⟨h.has v hvm y y1,fun e=>y2 ?_⟩
     cases y;cases r;simp only at e;rw[e.1,e.2]
    ·refine(give_users g).2 ⟨h.has x hx y hy,fun e=>hne ?_⟩
     have hy2:=h.has x hx y hy
     rw[e.1,e.2]at hy2
     exact vpc_uniq h.nk.rise hx hvm (user_one h.bp hy2 hus)
   ·obtain⟨x1,x2⟩:=(give_users g).1 hx
    rcases(mem_set hv hnd).1 hxm with rfl|⟨hxm,-⟩
    ·rw[d.id]at hxo
     exact(d.ranges _).2 ⟨h.all pid a o x1 v hvm hxo,fun e=>x2 (by rw[←e];exact⟨rfl,rfl⟩)⟩
    ·exact h.all pid a o x1 x hxm hxo
  ·rw[if_neg hd]at h0
   exact absurd h0 hd
 rw[if_neg h9]at h0 ⊢
 by_cases h1:c.op=10
 ·rw[if_pos h1]at h0 ⊢
  exact site_keep h hv (subV_keep (show (subV v c.b c.at_).2=0 from h0))
 rw[if_neg h1]at h0 ⊢
 by_cases h1:c.op=11
 ·rw[if_pos h1]at h0 ⊢
  exact site_keep h hv (unsubV_keep (show (unsubV v c.b).2=0 from h0))
 rw[if_neg h1]at h0 ⊢
 by_cases h1:c.op=12
 ·rw[if_pos h1]at h0 ⊢
  exact site_keep h hv (faceV_keep (show (faceV v c.b c.c).2.2=0 from h0))
 rw[if_neg h1]at h0 ⊢
 by_cases h1:c.op=13
 ·rw[if_pos h1]at h0 ⊢
  exact site_keep h hv (moreV_keep (show (moreV v c.b c.c).2.2=0 from h0))
 rw[if_neg h1]at h0 ⊢
 exact site_keep h hv (unfaceV_keep (show (unfaceV v c.b c.c).2=0 from h0))
theorem idxI_sat {α:Type}{p:α→Bool}{l:List α}{k:Nat}{x:α}(h:idxI p l=(k:Int))(hx:l[k]? =some x):p x=true:=by
 unfold idxI at h
 cases hf:l.findIdx? p with
 |none=>rw[hf]at h;simp only at h;omega
 |some i=>
  rw[hf]at h
  simp only at h
  obtain⟨hlt,hg,-⟩:=List.findIdx?_eq_some_iff_getElem.1 hf
  obtain rfl:i=k:=by omega
  rw[List.getElem?_eq_getElem hlt]at hx
  cases hx
  exact hg
theorem innerS_right {s:Ste}(h:SiteP s){c:Cmd}(h0:(innerS s.book s.net c).2.2.err=0):SiteP ⟨(innerS s.book s.net c).1,(innerS s.book s.net c).2.1⟩:=by
 unfold innerS at h0 ⊢
 rcases idxI_case (fun v:Vpc=>v.id==c.a) s.net.vpcs with hi|⟨k,v,hk,hv⟩
 ·rw[if_pos hi]at h0;cases h0
 ·rw[hk]at h0 ⊢
  rw[if_neg (by omega),Int.toNat_natCast,hv]at h0 ⊢
  refine inner_right h hv ?_ h0
  have:=idxI_sat hk hv
  simpa using this
theorem actS_right {s:Ste}(h:SiteP s){c:Cmd}(h0:(actS s c).2.err=0):SiteP (actS s c).1:=by
 unfold actS at h0 ⊢
 by_cases h1:1≤c.op∧c.op≤6
 ·rw[if_pos h1]at h0 ⊢;exact pool_right h h0
 rw[if_neg h1]at h0 ⊢
 by_cases h2:isNet c=true
 ·rw[if_pos h2]at h0 ⊢;exact net_right h h0
 rw[if_neg h2]at h0 ⊢
 by_cases h3:8≤c.op∧c.op≤14
 ·rw[if_pos h3]at h0 ⊢;exact innerS_right h h0
 rw[if_neg h3]at h0 ⊢
 exact h
theorem doS_ok {s:Ste}(h:SiteP s)(c:Cmd):doS s c=if (actS s c).2.err≠0 then (s,.er (actS s c).2.err,0)else ((actS s c).1,(actS s c).2,0):=by
 unfold doS
 rw[if_neg (by simpa using siteP.2 h)]
theorem doS_right {s:Ste}(h:SiteP s)(c:Cmd):SiteP (doS s c).1∧(doS s c).2.2=0:=by
 rw[doS_ok h]
 by_cases h0:(actS s c).2.err=0
 ·rw[if_neg (by simpa using h0)];exact⟨actS_right h h0,rfl⟩
 ·rw[if_pos h0];exact⟨h,rfl⟩
theorem playF_right {s:Ste}(h:SiteP s)(l:List Cmd):SiteP (playF s l):=by
 induction l generalizing s with
 |nil=>exact h
 |cons c l ih=>exact ih (doS_right h c).1
section
open Go.Proofs
def absI (c:Int):Int:=if c < 0 then -(c+1)else c
theorem choose_any (c n:Int)(w:World)(h1: -9223372036854775808≤c)(h2:c≤9223372036854775807)(hn:0 < n):
 Calls Tryz.prog 17 #[.int .i64 c,.int .i64 n] w fun e w'=>e= .returned (.int .i64 (absI c % n))∧w=w':=by
 by_cases hc:c < 0
 ·have ha:absI c= -(c+1):=by simp[absI,hc]
  rw[ha]
  go_enter Tryz.func17,Tryz.ntmps17
  go_wp2_with fail
  go_ret
  refine⟨ret_int ?_,rfl⟩
  rw[←Int.neg_tmod,Int.tmod_eq_emod_of_nonneg (by omega)]
 ·have ha:absI c=c:=by simp[absI,hc]
  rw[ha]
  go_enter Tryz.func17,Tryz.ntmps17
  go_wp2_with fail
  go_ret
  exact⟨ret_int rfl,rfl⟩
end
theorem choose_p (c n:Int)(h1: -9223372036854775808≤c)(h2:c≤9223372036854775807)(hn:0 < n):PSpec Tryz.prog 17 [.v (.int .i64 c),.v (.int .i64 n)] (.v (.int .i64 (absI c % n))):=pspec_flat (fnok_of Tryz.func17 (by kernel_rfl) rfl) (by intro d hd;simp at hd;(repeat(first|(obtain rfl:=hd;rfl)|(rcases hd with rfl|hd; · rfl)))) rfl rfl (fun w=>(choose_any c n w h1 h2 hn).mono fun _ _ h=>⟨h.1,h.2 ▸ Below.refl _ _⟩)
theorem playS_no {l:List Cmd}(h:200 < l.length):playS l=(.zero,[],2):=by unfold playS;rw[if_pos h]
theorem playS_yes {l:List Cmd}(h:¬200 < l.length):playS l=(playF .zero l,playA .zero l,0):=by unfold playS;rw[if_neg h]
inductive Eff (b:Bok):Bok→Option Int→Prop
 |same:Eff b b none
 |opened {id:Int}{root:Pfx}{r:Rul} (o:OpenP b id root r):Eff b ⟨b.tick,insB ⟨id,0,root,r,[]⟩ b.pools⟩ none
 |nested {id up size:Int}{r:Rul}{p:Pol}{q:Pfx} (n:NestP b id up size r p q):Eff b ⟨b.tick,insB ⟨id,up,q,r,[]⟩ (updB b up fun p=>{p with leases:=insL ⟨q,2,id,0⟩ p.leases}).pools⟩ none
 |closed {id:Int}{p:Pol}{f:Pol→Pol} (c:ClosP b id p f):Eff b ⟨b.tick,(b.pools.map f).filter fun q=>!(q.id==id)⟩ (some id)
 |passed {n:Int} (h:1≤n):Eff b ⟨b.tick+n,b.pools.map (passP (b.tick+n))⟩ none
 |taken {id size owner:Int}{p:Pol}{z:Int}{q:Pfx} (t:TakeP b id size owner p z q):Eff b (updB b id fun p=>{p with leases:=insL ⟨q,1,owner,0⟩ p.leases}) none
 |given {id:Int}{at_:Pfx}{p:Pol}{i:Nat}{l:Lse} (g:GiveP b id at_ p i l):Eff b (updB b id fun p=>{p with leases:=coolL p i b.tick}) none
def Cold (b:Bok)(pid:Int)(a:Pfx)(t:Int):Prop:=∃p∈b.pools,p.id=pid∧∃l∈p.leases,l.kind=3∧l.at_=a∧l.till=t
theorem eff_tick {b b':Bok}{cl:Option Int}(h:Eff b b' cl):b.tick≤b'.tick:=by
 cases h with
 |passed h=>show b.tick≤b.tick+_;omega
 |_=>exact Int.le_refl _
theorem cold_map {b:Bok}{t':Int}{f:Pol→Pol}{pid:Int}{a:Pfx}{t:Int}(hi:∀p∈b.pools,(f p).id=p.id)(hk:∀p∈b.pools,∀l∈p.leases,l.kind=3→l.till=t→l∈(f p).leases)(h:Cold b pid a t):Cold ⟨t',b.pools.map f⟩ pid a t:=by
 obtain⟨p,hp,h1,l,hl,h2,h3,h4⟩:=h
 exact⟨f p,List.mem_map.2 ⟨p,hp,rfl⟩,(hi p hp).trans h1,l,hk p hp l hl h2 h4,h2,h3,h4⟩
theorem eff_cold {b b':Bok}{cl:Option Int}(h:Eff b b' cl){pid:Int}{a:Pfx}{t:Int}(hc:Cold b pid a t)(hn:cl≠some pid):Cold b' pid a t∨t≤b'.tick:=by
 cases h with
 |same=>exact .inl hc
 |opened o=>
  obtain⟨p,hp,h⟩:=hc
  exact .inl ⟨p,insK_mem.2 (.inr hp),h⟩
 |@nested id up size r p q n=>
  have:=cold_map (b:=b) (t':=b.tick) (f:=fun s=>if s.id==up then {s with leases:=insL ⟨q,2,id,0⟩ s.leases} else s) (fun p _=>by(try dsimp only);split<;>rfl) (fun p _ l hl _ _=>by(try dsimp only);split;exact insL_mem.2 (.inr hl);exact hl) hc
  obtain⟨p,hp,h⟩:=this
  exact .inl ⟨p,insK_mem.2 (.inr hp),h⟩
 |@closed id p f c=>
  have he:id≠pid:=fun e=>hn (by rw[e])
  obtain⟨q,hq,h1,l,hl,h2⟩:=hc
  refine .inl ⟨f q,List.mem_filter.2 ⟨List.mem_map.2 ⟨q,hq,rfl⟩,?_⟩,by rw[(c.hf.id q).1];exact h1,l,c.hf.keep q hq l hl (by omega),h2⟩
  rw[(c.hf.id q).1,h1]
  simpa using fun e=>he e.symm
 |@passed n h=>
  by_cases ht:t≤b.tick+n
  ·exact .inr ht
  ·refine .inl (cold_map (fun _ _=>rfl) (fun p _ l hl _ h4=>List.mem_filter.2 ⟨hl,?_⟩) hc)
   simp[overB]
   omega
 |@taken id size owner p z q t=>
  exact .inl (cold_map (b:=b) (t':=b.tick) (f:=fun s=>if s.id==id then {s with leases:=insL ⟨q,1,owner,0⟩ s.leases} else s) (fun p _=>by(try dsimp only);split<;>rfl) (fun p _ l hl _ _=>by(try dsimp only);split;exact insL_mem.2 (.inr hl);exact hl) hc)
 |@given id at_ p i l g=>
  obtain⟨hpm,hpi⟩:=poolOf_mem g.pool
  refine .inl (cold_map (b:=b) (t':=b.tick) (f:=fun s=>if s.id==id then {s with leases:=coolL s i b.tick} else s) (fun p _=>by(try dsimp only);split<;>rfl) (fun s hs x hx h3 _=>?_) hc)
  (try dsimp only)
  split
  ·rename_i he
   obtain rfl:s=p:=rise_uniq g.bp.rise hs hpm (by rw[hpi];simpa using he)
   obtain⟨j,hj⟩:=List.mem_iff_getElem?.1 hx
   have hji:j≠i:=by
    rintro rfl
    rw[g.get]at hj
    cases hj
    have:=g.user.1
    omega
   show x∈coolL s i b.tick
   rw[coolL_eq g.get]
   split
   ·rcases Nat.lt_or_ge j i with hlt|hge
    ·exact List.mem_iff_getElem?.2 ⟨j,by rw[List.getElem?_eraseIdx,if_pos hlt];exact hj⟩
    ·exact List.mem_iff_getElem?.2 ⟨j - 1,by rw[List.getElem?_eraseIdx,if_neg (by omega),show j - 1+1=j by omega];exact hj⟩
   ·exact List.mem_iff_getElem?.2 ⟨j,by rw[List.getElem?_set,if_neg (fun e=>hji e.symm)];exact hj⟩
  ·exact hx
theorem actS_eff {s:Ste}{c:Cmd}(h0:(actS s c).2.err=0):∃cl,Eff s.book (actS s c).1.book cl∧∀pid,cl=some pid→c.op=3∧c.a=pid:=by
 have nn:∀pid:Int,(none:Option Int)=some pid→c.op=3∧c.a=pid:=fun pid h=>by cases h
 unfold actS at h0 ⊢
 by_cases g1:1≤c.op∧c.op≤6
 ·rw[if_pos g1]at h0 ⊢
  simp only at h0 ⊢
  unfold bookS at h0 ⊢
  by_cases h1:c.op=1
  ·rw[if_pos h1]at h0 ⊢
   have o:=open_inv (show (openR s.book c.a c.at_ c.rule).2=0 from h0)
   simp only[o.is]
   exact⟨_,.opened o,nn⟩
  rw[if_neg h1]at h0 ⊢
  by_cases h2:c.op=2
  ·rw[if_pos h2]at h0 ⊢
   obtain⟨p,q,n⟩:=nest_inv (show (nestR s.book c.a c.b c.c c.rule).2.2=0 from h0)
   simp only[n.is]
   exact⟨_,.nested n,nn⟩
  rw[if_neg h2]at h0 ⊢
  by_cases h3:c.op=3
  ·rw[if_pos h3]at h0 ⊢
   obtain⟨p,f,cl⟩:=close_inv (show (closeR s.book c.a).2=0 from h0)
   simp only[cl.is]
   exact⟨_,.closed cl,fun pid h=>⟨h3,Option.some.inj h⟩⟩
  rw[if_neg h3]at h0 ⊢
  by_cases h4:c.op=4
  ·rw[if_pos h4]at h0 ⊢
   obtain⟨hb,k1,k2,is⟩:=pass_inv (show (passR s.book c.a).2=0 from h0)
   simp only[is]
   exact⟨_,.passed k1,nn⟩
  rw[if_neg h4]at h0 ⊢
  by_cases h5:c.op=5
  ·rw[if_pos h5]at h0 ⊢
   by_cases hh:heldB s.net.vpcs c.c=true
   ·rw[if_pos hh]at h0;cases h0
   rw[if_neg hh]at h0 ⊢
   obtain⟨p,z,q,t⟩:=take_inv (show (takeR s.book c.a c.b c.c).2.2=0 from h0)
   simp only[t.is]
   exact⟨_,.taken t,nn⟩
  rw[if_neg h5]at h0 ⊢
  by_cases h6:c.op=6
  ·rw[if_pos h6]at h0 ⊢
   by_cases hh:rngIn s.net.vpcs ⟨c.at_,c.a⟩=true
   ·rw[if_pos hh]at h0;cases h0
   rw[if_neg hh]at h0 ⊢
   obtain⟨p,i,l,g⟩:=give_inv (show (giveR s.book c.a c.at_).2=0 from h0)
   simp only[g.is]
   exact⟨_,.given g,nn⟩
  ·rw[if_neg h6]
   exact⟨_,.same,nn⟩
 rw[if_neg g1]at h0 ⊢
 by_cases g2:isNet c=true
 ·rw[if_pos g2];exact⟨_,.same,nn⟩
 rw[if_neg g2]at h0 ⊢
 by_cases g3:8≤c.op∧c.op≤14
 ·rw[if_pos g3]at h0 ⊢
  simp only at h0 ⊢
  unfold innerS at h0 ⊢
  rcases idxI_case (fun v:Vpc=>v.id==c.a) s.net.vpcs with hi|⟨k,v,hk,hv⟩
  ·rw[if_pos hi]at h0;cases h0
  ·have hk0:¬(k:Int) < 0:=by omega
   rw[hk,if_neg hk0,Int.toNat_natCast,hv]at h0 ⊢
   simp only at h0 ⊢
   unfold innerV at h0 ⊢
   by_cases h8:c.op=8
   ·rw[if_pos h8]at h0 ⊢
    by_cases ht:(takeR s.book c.b c.c c.a).2.2=0
    ·rw[if_pos ht]at h0 ⊢
     obtain⟨p,z,q,t⟩:=take_inv ht
     simp only[t.is]
     exact⟨_,.taken t,nn⟩
    ·rw[if_neg ht]at h0;exact absurd h0 ht
   rw[if_neg h8]at h0 ⊢
   by_cases h9:c.op=9
   ·rw[if_pos h9]at h0 ⊢
    by_cases hd:(dropV v c.at_).2.2=0
    ·rw[if_pos hd]at h0 ⊢
     obtain⟨p,i,l,g⟩:=give_inv (show (giveR s.book (dropV v c.at_).2.1.pool (dropV v c.at_).2.1.at_).2=0 from h0)
     simp only[g.is]
     exact⟨_,.given g,nn⟩
    ·rw[if_neg hd]at h0;exact absurd h0 hd
   rw[if_neg h9]at h0 ⊢
   repeat' split
   all_goals exact⟨_,.same,nn⟩
 rw[if_neg g3]
 exact⟨_,.same,nn⟩
theorem take_cold {b:Bok}{id size owner:Int}{p:Pol}{z:Int}{q:Pfx}(t:TakeP b id size owner p z q){a:Pfx}{ti:Int}(hc:Cold b id a ti):q.meets a=false:=by
 obtain⟨hpm,hpi⟩:=poolOf_mem t.pool
 obtain⟨r,hr,h1,l,hl,-,h3,-⟩:=hc
 obtain rfl:r=p:=rise_uniq t.bp.rise hr hpm (by omega)
 have hm:=t.bp.mem r hpm
 obtain⟨-,-,-,-,-,f4,-⟩:=fitE_inv hm.2.1 hm.2.2 t.fit
 rw[←h3]
 exact free_iff.1 f4 _ (List.mem_map.2 ⟨l,hl,rfl⟩)
theorem nest_cold {b:Bok}{id up size:Int}{r:Rul}{p:Pol}{q:Pfx}(n:NestP b id up size r p q){a:Pfx}{ti:Int}(hc:Cold b up a ti):q.meets a=false:=by
 obtain⟨hpm,hpi⟩:=poolOf_mem n.pool
 obtain⟨s,hs,h1,l,hl,-,h3,-⟩:=hc
 obtain rfl:s=p:=rise_uniq n.bp.rise hs hpm (by omega)
 have hm:=n.bp.mem s hpm
 obtain⟨-,-,-,-,-,f4,-⟩:=fitE_inv hm.2.1 hm.2.2 n.fit
 rw[←h3]
 exact free_iff.1 f4 _ (List.mem_map.2 ⟨l,hl,rfl⟩)
def GivesB (c:Cmd)(pid:Int):Prop:=(c.op=5∧c.a=pid)∨(c.op=8∧c.b=pid)∨(c.op=2∧c.b=pid)
theorem gives_cold {s:Ste}{c:Cmd}(h0:(actS s c).2.err=0){pid:Int}(hg:GivesB c pid){a:Pfx}{t:Int}(hc:Cold s.book pid a t):(actS s c).2.at_.meets a=false:=by
 unfold actS at h0 ⊢
 rcases hg with⟨h5,rfl⟩|⟨h8,rfl⟩|⟨h2,rfl⟩
 ·have g1:1≤c.op∧c.op≤6:=by omega
  rw[if_pos g1]at h0 ⊢
  simp only at h0 ⊢
  unfold bookS at h0 ⊢
  rw[if_neg (by omega),if_neg (by omega),if_neg (by omega),if_neg (by omega),if_pos h5]at h0 ⊢
  by_cases hh:heldB s.net.vpcs c.c=true
  ·rw[if_pos hh]at h0;cases h0
  rw[if_neg hh]at h0 ⊢
  obtain⟨p,z,q,t⟩:=take_inv (show (takeR s.book c.a c.b c.c).2.2=0 from h0)
  simp only[t.res]
  exact take_cold t hc
 ·have g1:¬(1≤c.op∧c.op≤6):=by omega
  have g2:¬isNet c=true:=by unfold isNet;simp;omega
  have g3:8≤c.op∧c.op≤14:=by omega
  rw[if_neg g1,if_neg g2,if_pos g3]at h0 ⊢
  simp only at h0 ⊢
  unfold innerS at h0 ⊢
  rcases idxI_case (fun v:Vpc=>v.id==c.a) s.net.vpcs with hi|⟨k,v,hk,hv⟩
  ·rw[if_pos hi]at h0;cases h0
  ·have hk0:¬(k:Int) < 0:=by omega
   rw[hk,if_neg hk0,Int.toNat_natCast,hv]at h0 ⊢
   simp only at h0 ⊢
   unfold innerV at h0 ⊢
   rw[if_pos h8]at h0 ⊢
   by_cases ht:(takeR s.book c.b c.c c.a).2.2=0
   ·rw[if_pos ht]at h0 ⊢
    obtain⟨p,z,q,t⟩:=take_inv ht
    simp only[t.res]
    exact take_cold t hc
   ·rw[if_neg ht]at h0;exact absurd h0 ht
 ·have g1:1≤c.op∧c.op≤6:=by omega
  rw[if_pos g1]at h0 ⊢
  simp only at h0 ⊢
  unfold bookS at h0 ⊢
  rw[if_neg (by omega),if_pos h2]at h0 ⊢
  obtain⟨p,q,n⟩:=nest_inv (show (nestR s.book c.a c.b c.c c.rule).2.2=0 from h0)
  simp only[n.res]
  exact nest_cold n hc
theorem drop_cold {s:Ste}(h:SiteP s){v:Vpc}(hv:v∈s.net.vpcs){r:Rng}(hr:r∈v.ranges){p:Pol}(hp:poolOf s.book r.pool=some p)(h0:(actS s ⟨9,v.id,0,0,r.at_,⟨0,0,0,0⟩⟩).2.err=0):
 s.book.tick+p.rule.cool≤(actS s ⟨9,v.id,0,0,r.at_,⟨0,0,0,0⟩⟩).1.book.tick∨Cold (actS s ⟨9,v.id,0,0,r.at_,⟨0,0,0,0⟩⟩).1.book r.pool r.at_ (s.book.tick+p.rule.cool):=by
 unfold actS at h0 ⊢
 rw[if_neg (by simp),if_neg (by simp[isNet]),if_pos (by simp)]at h0 ⊢
 simp only at h0 ⊢
 unfold innerS at h0 ⊢
 rcases idxI_case (fun x:Vpc=>x.id==v.id) s.net.vpcs with hi|⟨k,w,hk,hw⟩
 ·simp only at h0
  rw[if_pos hi]at h0;cases h0
 ·have hk0:¬(k:Int) < 0:=by omega
  simp only at h0 ⊢
  have hwv:w=v:=vpc_uniq h.nk.rise (List.mem_of_getElem? hw) hv (by have:=idxI_sat hk hw;simpa using this)
  rw[hk,if_neg hk0,Int.toNat_natCast,hw]at h0 ⊢
  subst hwv
  simp only at h0 ⊢
  unfold innerV at h0 ⊢
  rw[if_neg (by simp),if_pos rfl]at h0 ⊢
  simp only at h0 ⊢
  by_cases hd:(dropV w r.at_).2.2=0
  ·rw[if_pos hd]at h0 ⊢
   obtain⟨r',w',d⟩:=dropV_inv hd
   have hrr:r'=r:=range_at d.ok d.mem hr (by rw[d.at_])
   subst hrr
   rw[d.res]at h0 ⊢
   obtain⟨p',i,l,g⟩:=give_inv (show (giveR s.book r'.pool r'.at_).2=0 from h0)
   obtain rfl:p=p':=Option.some.inj (hp.symm.trans g.pool)
   simp only[g.is]
   obtain⟨hpm,hpi⟩:=poolOf_mem g.pool
   by_cases hc:p.rule.cool=0
   ·left
    show _≤s.book.tick
    omega
   ·right
    obtain⟨hlt,-⟩:=List.getElem?_eq_some_iff.1 g.get
    refine⟨_,List.mem_map.2 ⟨p,hpm,rfl⟩,?_,⟨l.at_,3,0,s.book.tick+p.rule.cool⟩,?_,rfl,g.user.2,rfl⟩
    ·split<;>exact hpi
    ·rw[if_pos (by simpa using hpi)]
     show _∈coolL p i s.book.tick
     rw[coolL_eq g.get,if_neg hc]
     exact List.mem_iff_getElem?.2 ⟨i,by rw[List.getElem?_set,if_pos rfl,if_pos hlt]⟩
  ·rw[if_neg hd]at h0
   exact absurd h0 hd
structure CoolI (s:Ste)(pid:Int)(a:Pfx)(t:Int):Prop where
 site:SiteP s
 cold:t≤s.book.tick∨Cold s.book pid a t
theorem cool_step {s:Ste}{pid:Int}{a:Pfx}{t:Int}(h:CoolI s pid a t)(c:Cmd)(hn:¬((doS s c).2.1.err=0∧c.op=3∧c.a=pid)):CoolI (doS s c).1 pid a t:=by
 refine⟨(doS_right h.site c).1,?_⟩
 rw[doS_ok h.site]at hn ⊢
 by_cases h0:(actS s c).2.err=0
 ·rw[if_neg (by simpa using h0)]at hn ⊢
  obtain⟨cl,he,hcl⟩:=actS_eff h0
  have hti:=eff_tick he
  rcases h.cold with h1|h1
  ·left;show t≤(actS s c).1.book.tick;omega
  ·rcases eff_cold he h1 (fun e=>hn ⟨h0,hcl pid e⟩)with h2|h2
   ·exact .inr h2
   ·exact .inl h2
 ·rw[if_pos h0];exact h.cold
theorem cool_gives {s:Ste}{pid:Int}{a:Pfx}{t:Int}(h:CoolI s pid a t){c:Cmd}(h0:(doS s c).2.1.err=0)(hg:GivesB c pid)(ht:s.book.tick < t):(doS s c).2.1.at_.meets a=false:=by
 rw[doS_ok h.site]at h0 ⊢
 by_cases h1:(actS s c).2.err=0
 ·rw[if_neg (by simpa using h1)]
  rcases h.cold with h2|h2
  ·omega
  ·exact gives_cold h1 hg h2
 ·rw[if_pos h1]at h0
  exact absurd h0 h1
theorem siteCools_p (l m:List Cmd)(net part:Int)(hn1: -9223372036854775808≤net)(hn2:net≤9223372036854775807)(hp1: -9223372036854775808≤part)(hp2:part≤9223372036854775807):PSpec Tryz.prog 5 [.sl 10 (l.map encC),.sl 10 (m.map encC),.v (.int .i64 net),.v (.int .i64 part)] (.v (.bool true)):=by
 have hpl:=play_p l
 have hbeg:=siteBegun_p
 by_cases hl:200 < l.length
 ·rw[playS_no hl]at hpl
  clear hl hn1 hn2 hp1 hp2
  refine pj Tryz.func5 Tryz.ntmps5 Tryz.results5 ?_
  exact wk0
 have hok:=playF_right siteP_zero l
 have hsm:=playF_small l
 rw[playS_yes hl]at hpl
 clear hl
 generalize playF .zero l=s at*
 generalize playA .zero l=A at*
 by_cases hv0:s.net.vpcs.length=0
 ·have e1:(((s.net.vpcs.length:Nat):Int)==0)=true:=by simp[hv0]
  clear hok hsm hv0 hn1 hn2 hp1 hp2
  refine pj Tryz.func5 Tryz.ntmps5 Tryz.results5 ?_
  exact wk0
 have e1:(((s.net.vpcs.length:Nat):Int)==0)=false:=by simpa using hv0
 by_cases hm:m.length>200
 ·have e2:decide (((m.length:Nat):Int)>200)=true:=by simp;omega
  clear hok hsm hv0 hn1 hn2 hp1 hp2 hm
  refine pj Tryz.func5 Tryz.ntmps5 Tryz.results5 ?_
  exact wk0
 have e2:decide (((m.length:Nat):Int)>200)=false:=by simp;omega
 have hnl:(0:Int) < (s.net.vpcs.length:Int):=by omega
 have hc1:=choose_p net s.net.vpcs.length hn1 hn2 hnl
 have hi1:=Int.emod_nonneg (absI net) (show (s.net.vpcs.length:Int)≠0 by omega)
 have hi2:=Int.emod_lt_of_pos (absI net) hnl
 obtain⟨i,hi⟩:∃i:Nat,absI net % (s.net.vpcs.length:Int)=i:=⟨(absI net % (s.net.vpcs.length:Int)).toNat,by omega⟩
 rw[hi]at hc1 hi1 hi2
 obtain⟨v,hv⟩:∃v,s.net.vpcs[i]? =some v:=⟨_,List.getElem?_eq_getElem (by omega)⟩
 have hvm:=List.mem_of_getElem? hv
 clear hi hn1 hn2 hv0 hnl
 by_cases hr0:v.ranges.length=0
 ·have e3:(((v.ranges.length:Nat):Int)==0)=true:=by simp[hr0]
  clear hok hsm hr0 hp1 hp2 hvm
  refine pj Tryz.func5 Tryz.ntmps5 Tryz.results5 ?_
  exact wk0
 have e3:(((v.ranges.length:Nat):Int)==0)=false:=by simpa using hr0
 have hrl:(0:Int) < (v.ranges.length:Int):=by omega
 have hc2:=choose_p part v.ranges.length hp1 hp2 hrl
 have hj1:=Int.emod_nonneg (absI part) (show (v.ranges.length:Int)≠0 by omega)
 have hj2:=Int.emod_lt_of_pos (absI part) hrl
 obtain⟨j,hj⟩:∃j:Nat,absI part % (v.ranges.length:Int)=j:=⟨(absI part % (v.ranges.length:Int)).toNat,by omega⟩
 rw[hj]at hc2 hj1 hj2
 obtain⟨r,hr⟩:∃r,v.ranges[j]? =some r:=⟨_,List.getElem?_eq_getElem (by omega)⟩
 have hrm:=List.mem_of_getElem? hr
 clear hj hp1 hp2 hr0 hrl
 obtain⟨p,hp⟩:∃p,poolOf s.book r.pool=some p:=by
  obtain⟨p,hpm,hpi,-⟩:=hok.has v hvm r hrm
  exact⟨p,by rw[←hpi];exact poolOf_uniq hok.bp.rise hpm⟩
 obtain⟨q,q1,q2,-⟩:=atI_some hp
 have hpa:=poolAt_p s.book r.pool (by have:=hok.bp.n8;omega)
 rw[q1]at hpa
 have hqI:(q:Int) < (s.book.pools.length:Int):=by have:=(List.getElem?_eq_some_iff.1 q2).1;omega
 have hq0:decide ((q:Int) < 0)=false:=by simp
 have hdo:=do_p s ⟨9,v.id,0,0,r.at_,⟨0,0,0,0⟩⟩ hsm.hz
 have hdr:=doS_right hok ⟨9,v.id,0,0,r.at_,⟨0,0,0,0⟩⟩
 have hds:=doS_small s ⟨9,v.id,0,0,r.at_,⟨0,0,0,0⟩⟩
 have hde:=doS_ok hok ⟨9,v.id,0,0,r.at_,⟨0,0,0,0⟩⟩
 have hdc:=fun h=>drop_cold hok hvm hrm hp h
 have hcI:∀h:(doS s ⟨9,v.id,0,0,r.at_,⟨0,0,0,0⟩⟩).2.1.err=0,CoolI (doS s ⟨9,v.id,0,0,r.at_,⟨0,0,0,0⟩⟩).1 r.pool r.at_ (s.book.tick+p.rule.cool):=fun h=>by
  refine⟨hdr.1,?_⟩
  rw[hde]at h ⊢
  by_cases h0:(actS s ⟨9,v.id,0,0,r.at_,⟨0,0,0,0⟩⟩).2.err=0
  ·rw[if_neg (by simpa using h0)];exact hdc h0
  ·rw[if_pos h0]at h;exact absurd h h0
 have hd0:=hdr.2
 have htk:=hok.bp.tick
 have hrc:=rule_bd (hok.bp.mem p (poolOf_mem hp).1).2.2
 clear hdr hde hdc hok hsm hvm hrm hp q1
 generalize doS s ⟨9,v.id,0,0,r.at_,⟨0,0,0,0⟩⟩=R at*
 by_cases he:R.2.1.err=0
 case neg=>
  have e4:(R.2.1.err !=0)=true:=by simpa using he
  clear he hcI hds
  replace htk:=Lib.hid htk
  replace hrc:=Lib.hid hrc
  refine pj Tryz.func5 Tryz.ntmps5 Tryz.results5 ?_
  exact wk0
 have e4:(R.2.1.err !=0)=false:=by simpa using he
 have hCI:=hcI he
 clear hcI he
 have hwt:IntKind.i64.wrap (s.book.tick+p.rule.cool)=s.book.tick+p.rule.cool:=by rw[IntKind.wrap_i64];omega
 replace htk:=Lib.hid htk
 replace hrc:=Lib.hid hrc
 replace hCI:=Lib.hid hCI
 replace hds:=Lib.hid hds
 refine pj Tryz.func5 Tryz.ntmps5 Tryz.results5 ?_
 refine wk1 ?_
 have hml:m.length≤200:=by omega
 refine loopG tab_ok mixed (fun n e h=>∃(k:Nat) (S:Ste),k≤m.length∧n=m.length - k∧CoolI S r.pool r.at_ (s.book.tick+p.rule.cool)∧SmallSt S∧
  e=[(19,.d (.v (.int .i64 k))),(16,.d (.v (.int .i64 s.book.tick))),(15,.d (.v (.int .i64 p.rule.cool))),(13,.ptr 2 0),(9,.ptr 0 0),(1,.d (.sl 10 (m.map encC)))]∧
  h=[.box 30 ((encSt S).map .d),.box 55 ((encV v).map .d),.box 58 ((encG r).map .d)]) m.length _ _ ⟨0,R.1,Nat.zero_le _,rfl,hCI.out,hds.out,rfl,rfl⟩ ?_ ?_
 ·exact wf
 ·rintro n e h ⟨k,S,hk,hn,hI,hS,rfl,rfl⟩ C hC
  replace hn:=Lib.hid hn
  by_cases hlt:k < m.length
  ·have hkI:(k:Int) < (m.length:Int):=by omega
   have hwr:=wi k (by omega)
   obtain⟨c,hc⟩:∃c,m[k]? =some c:=⟨_,List.getElem?_eq_getElem hlt⟩
   have hdo2:=do_p S c hS.hz
   have hd02:=(doS_right hI.site c).2
   have hst:=fun hn=>cool_step hI c hn
   have hgv:=fun h0 hg ht=>cool_gives hI (c:=c) h0 hg ht
   have hsm:=doS_small S c
   have hme:PSpec Tryz.prog 19 [.agg (encP (doS S c).2.1.at_),.agg (encP r.at_)] (.v (.bool ((doS S c).2.1.at_.meets r.at_))):=meets_p _ _
   generalize doS S c=Q at*
   generalize hM:Q.2.1.at_.meets r.at_=M at*
   clear hI hS hM hdo hd0 hpa hc1 hc2
   replace hsm:=Lib.hid hsm
   have hbad:(Q.2.1.err==0)=true→GivesB c r.pool→M=true→decide (S.book.tick < s.book.tick+p.rule.cool)=false:=fun h0 hg hM=>by
    rw[decide_eq_false_iff_not]
    intro ht
    have:=hgv (by simpa using h0) hg ht
    rw[hM]at this;cases this
   clear hgv
   have hend:¬(Q.2.1.err=0∧c.op=3∧c.a=r.pool)→CoolI Q.1 r.pool r.at_ (s.book.tick+p.rule.cool):=hst
   clear hst
   replace hend:=Lib.hid hend
   replace hbad:=Lib.hid hbad
   have o5:(c.op==5)=decide (c.op=5):=rfl
   by_cases h5:c.op=5
   ·have b5:(c.op==5)=true:=by simpa using h5
    have b8:(c.op==8)=false:=by simp;omega
    have b2:(c.op==2)=false:=by simp;omega
    have b3:(c.op==3)=false:=by simp;omega
    have hC1:=hend.out (fun h=>by omega)
    cases ba:(c.a==r.pool)
    ·clear hbad hend o5 h5
     cases b7:(Q.2.1.err==0)<;>(replace hC1:=Lib.hid hC1;refine wk1 ?_;refine hC _ _ _ _ _ ?_ ⟨k+1,Q.1,hlt,rfl,hC1.out,hsm.out,rfl,rfl⟩ wf;have:=hn.out;omega)
    ·have hg:GivesB c r.pool:= .inl ⟨h5,by simpa using ba⟩
     clear o5 h5
     (have h7:(Q.2.1.err==0)=false∨((Q.2.1.err==0)=true∧(M=false∨(M=true∧decide (S.book.tick < s.book.tick+p.rule.cool)=false))):=(by cases b7:(Q.2.1.err==0)with|false=>exact .inl rfl|true=>cases M with|false=>exact .inr ⟨rfl,.inl rfl⟩|true=>exact .inr ⟨rfl,.inr ⟨rfl,hbad.out b7 hg rfl⟩⟩);clear hbad hend hg;rcases h7 with b7|⟨b7,rfl|⟨rfl,hb3⟩⟩<;>(replace hC1:=Lib.hid hC1;refine wk1 ?_;refine hC _ _ _ _ _ ?_ ⟨k+1,Q.1,hlt,rfl,hC1.out,hsm.out,rfl,rfl⟩ wf;have:=hn.out;omega))
   by_cases h8:c.op=8
   ·have b5:(c.op==5)=false:=by simp;omega
    have b8:(c.op==8)=true:=by simpa using h8
    have b2:(c.op==2)=false:=by simp;omega
    have b3:(c.op==3)=false:=by simp;omega
    have hC1:=hend.out (fun h=>by omega)
    cases ba:(c.b==r.pool)
    ·clear hbad hend o5 h5 h8
     cases b7:(Q.2.1.err==0)<;>(replace hC1:=Lib.hid hC1;refine wk1 ?_;refine hC _ _ _ _ _ ?_ ⟨k+1,Q.1,hlt,rfl,hC1.out,hsm.out,rfl,rfl⟩ wf;have:=hn.out;omega)
    ·have hg:GivesB c r.pool:= .inr (.inl ⟨h8,by simpa using ba⟩)
     clear o5 h5 h8
     (have h7:(Q.2.1.err==0)=false∨((Q.2.1.err==0)=true∧(M=false∨(M=true∧decide (S.book.tick < s.book.tick+p.rule.cool)=false))):=(by cases b7:(Q.2.1.err==0)with|false=>exact .inl rfl|true=>cases M with|false=>exact .inr ⟨rfl,.inl rfl⟩|true=>exact .inr ⟨rfl,.inr ⟨rfl,hbad.out b7 hg rfl⟩⟩);clear hbad hend hg;rcases h7 with b7|⟨b7,rfl|⟨rfl,hb3⟩⟩<;>(replace hC1:=Lib.hid hC1;refine wk1 ?_;refine hC _ _ _ _ _ ?_ ⟨k+1,Q.1,hlt,rfl,hC1.out,hsm.out,rfl,rfl⟩ wf;have:=hn.out;omega))
   by_cases h2:c.op=2
   ·have b5:(c.op==5)=false:=by simp;omega
    have b8:(c.op==8)=false:=by simp;omega
    have b2:(c.op==2)=true:=by simpa using h2
    have b3:(c.op==3)=false:=by simp;omega
    have hC1:=hend.out (fun h=>by omega)
    cases ba:(c.b==r.pool)
    ·clear hbad hend o5 h5 h8 h2
     cases b7:(Q.2.1.err==0)<;>(replace hC1:=Lib.hid hC1;refine wk1 ?_;refine hC _ _ _ _ _ ?_ ⟨k+1,Q.1,hlt,rfl,hC1.out,hsm.out,rfl,rfl⟩ wf;have:=hn.out;omega)
    ·have hg:GivesB c r.pool:= .inr (.inr ⟨h2,by simpa using ba⟩)
     clear o5 h5 h8 h2
     (have h7:(Q.2.1.err==0)=false∨((Q.2.1.err==0)=true∧(M=false∨(M=true∧decide (S.book.tick < s.book.tick+p.rule.cool)=false))):=(by cases b7:(Q.2.1.err==0)with|false=>exact .inl rfl|true=>cases M with|false=>exact .inr ⟨rfl,.inl rfl⟩|true=>exact .inr ⟨rfl,.inr ⟨rfl,hbad.out b7 hg rfl⟩⟩);clear hbad hend hg;rcases h7 with b7|⟨b7,rfl|⟨rfl,hb3⟩⟩<;>(replace hC1:=Lib.hid hC1;refine wk1 ?_;refine hC _ _ _ _ _ ?_ ⟨k+1,Q.1,hlt,rfl,hC1.out,hsm.out,rfl,rfl⟩ wf;have:=hn.out;omega))
   have b5:(c.op==5)=false:=by simpa using h5
   have b8:(c.op==8)=false:=by simpa using h8
   have b2:(c.op==2)=false:=by simpa using h2
   by_cases h3:c.op=3
   ·have b3:(c.op==3)=true:=by simpa using h3
    cases ba:(c.a==r.pool)
    ·have hC1:=hend.out (fun h=>by have:=h.2.2;simp at ba;omega)
     clear hbad hend o5 h5 h8 h2 h3
     cases b7:(Q.2.1.err==0)<;>(replace hC1:=Lib.hid hC1;refine wk1 ?_;refine hC _ _ _ _ _ ?_ ⟨k+1,Q.1,hlt,rfl,hC1.out,hsm.out,rfl,rfl⟩ wf;have:=hn.out;omega)
    ·cases b7:(Q.2.1.err==0)
     ·have hC1:=hend.out (fun h=>by have:=h.1;simp at b7;omega)
      clear hbad hend o5 h5 h8 h2 h3
      (replace hC1:=Lib.hid hC1;refine wk1 ?_;refine hC _ _ _ _ _ ?_ ⟨k+1,Q.1,hlt,rfl,hC1.out,hsm.out,rfl,rfl⟩ wf;have:=hn.out;omega)
     ·clear hbad hend o5 h5 h8 h2 h3
      exact wk0
   ·have b3:(c.op==3)=false:=by simpa using h3
    have hC1:=hend.out (fun h=>h3 h.2.1)
    clear hbad hend o5 h5 h8 h2 h3
    cases b7:(Q.2.1.err==0)<;>(replace hC1:=Lib.hid hC1;refine wk1 ?_;refine hC _ _ _ _ _ ?_ ⟨k+1,Q.1,hlt,rfl,hC1.out,hsm.out,rfl,rfl⟩ wf;have:=hn.out;omega)
  ·obtain rfl:k=m.length:=by omega
   clear hC
   exact wk0
section
open Go.Proofs Go.ChangeShapes Go.WideShapes Go.Deep
def NM:Nat→Prop:=fun _=>False
section
variable {H:Type}{enc:TypeId × Value→H}{P:Program}{w:World}{base:Nat}{spare:Nat→Bool}{held:Bool}
def RdW {α:Type}(enc:TypeId × Value→H)(P:Program)(w:World)(base:Nat)(spare:Nat→Bool)(held:Bool)(t:TypeId)(R:List Value→α→Prop)(S:α→Prop):Prop:=
 ∀fuel cs x,DataW.trod enc P w base spare held fuel t cs=some x→∃a,R cs a∧((∀n∈x.1.weights P t,n≤reachBytes)→S a)
theorem rdw_of {α:Type}{t:TypeId}{R:List Value→α→Prop}(h:Rd enc P w base spare held t R):RdW enc P w base spare held t R (fun _=>True):=by
 intro fuel cs x hx
 obtain⟨a,ha⟩:=h fuel cs x hx
 exact⟨a,ha,fun _=>trivial⟩
theorem weights_all {e:TypeId}:∀{l:List (DataW H)}{d:DataW H},d∈l→∀n∈d.weights P e,n∈DataW.weightsAll P e l
 |a::l,d,h,n,hn=>by
  simp only[DataW.weightsAll,List.mem_append]
  rcases List.mem_cons.1 h with rfl|h
  ·exact .inl hn
  ·exact .inr (weights_all h n hn)
theorem rdw_slice {α:Type}{t e:TypeId}{k:Nat}{R:List Value→α→Prop}{S:α→Prop}(ht:P.underlying t=some (.slice e))(hc:P.cellsOf e=k+1)(he:RdW enc P w base spare held e R S):
 RdW enc P w base spare held t (fun cs (l:List α)=>∃v,cs=[v]∧IsSl (inW w) w (k+1) R v l) (fun l=>l.length*P.bytesOf e≤reachBytes∧∀a∈l,S a):=by
 intro fuel cs x hx
 rcases open_slice ht hx with⟨rfl,rfl⟩|⟨a,len,cap,m,n,D,Pl,rfl,hb,hl,hm,hmm,rfl,hi⟩
 ·exact⟨[],⟨_,rfl,none,0,rfl,⟨Nat.le_refl _,by decide,fun i h=>by simp at h⟩⟩,fun _=>⟨by simp,fun a h=>by simp at h⟩⟩
 ·have hlm:len≤m:=by rw[hmm];split<;>omega
  obtain⟨l,hll,hq⟩:=pick_list (Q:=fun i y=>∃cs',w.cells? base (a.add (i*P.cellsOf e)) (P.cellsOf e)=some cs'∧R cs' y∧((∀n∈(D i).weights P e,n≤reachBytes)→S y)) len fun i h=>by
   obtain⟨cs',h1,h2⟩:=hi i (by omega)
   obtain⟨y,hy,hs⟩:=he _ _ _ h2
   exact⟨y,cs',h1,hy,hs⟩
  refine⟨l,⟨_,rfl,some a,cap,by rw[hll],⟨by omega,by unfold maxLen at hm;omega,fun i h=>?_⟩⟩,fun hw=>⟨?_,fun y hy=>?_⟩⟩
  ·obtain⟨cs',h1,h2,-⟩:=hq i h
   rw[hc]at h1
   obtain⟨_,hcl,hat⟩:=World.cells?_some h1
   obtain⟨b,off,spot⟩:=a
   have hspot:spot=none:=by
    obtain⟨cs0,g1,_⟩:=hq 0 (by omega)
    rw[hc]at g1
    obtain⟨_,gcl,gat⟩:=World.cells?_some g1
    have g0:=gat (i:=0) (by omega)
    have g0':w.cell? ⟨b,off,spot⟩=some (cs0[0]'(by omega)):=by
     have:((⟨b,off,spot⟩:Addr).add (0*(k+1))).add 0=⟨b,off,spot⟩:=by simp[Addr.add]
     rw[this]at g0
     rw[g0];exact List.getElem?_eq_getElem (by omega)
    exact World.cell?_spot g0'
   subst hspot
   have hadd:∀o j,((⟨b,o,none⟩:Addr).add j)=⟨b,o+j,none⟩:=by
    intro o j;unfold Addr.add;split<;>simp_all
   refine⟨b,off,cs',rfl,?_,hcl,h2,fun j hj=>?_⟩
   ·have:=hat (i:=0) (by omega)
    rw[hadd,hadd]at this
    exact lt_of_cell (this.trans (List.getElem?_eq_getElem (by omega)))
   ·have:=hat (i:=j) (by omega)
    rw[hadd,hadd]at this
    rw[this]
    exact List.getElem?_eq_getElem hj
  ·have:=hw (((List.range len).map D).length+((List.range (m - len)).map fun j=>D (len+j)).length|>(·*P.bytesOf e)) (by simp[DataW.weights,ht])
   simp only[List.length_map,List.length_range]at this
   rw[hll]
   exact Nat.le_trans (Nat.mul_le_mul_right _ (by omega)) this
  ·obtain⟨i,hil,rfl⟩:=List.mem_iff_getElem.1 hy
   obtain⟨cs',h1,h2,h3⟩:=hq i hil
   refine h3 fun n hn=>hw n ?_
   simp only[DataW.weights,ht]
   refine List.mem_cons_of_mem _ (List.mem_append_left _ (weights_all (d:=D i) (List.mem_map.2 ⟨i,by simp;omega,rfl⟩) n hn))
end
end
section
open Go.Proofs Go.ChangeShapes Go.WideShapes Go.Deep
theorem isSl_rep {α:Type}{enc:α→List D}{sz:Nat}{w:World}(h0:0 < sz)(hen:∀a,(enc a).length=sz∧∀d∈enc a,d.one=true){v:Value}{l:List α}(h:IsSl (inW w) w sz (fun cs a=>RepDs NM w (enc a) cs) v l):RepD NM w (.sl sz (l.map enc)) v:=by
 obtain⟨ao,cap,rfl,hs⟩:=h
 cases l with
 |nil=>exact .nil sz ao cap hs.cap_max
 |cons u us=>
  obtain⟨b,off,cs,rfl,hAb,hl,hR,hcs⟩:=hs.elem 0 (by simp)
  have key:∀i (hi:i < (u::us).length),∃cs:List Value,cs.length=sz∧RepDs NM w (enc (u::us)[i]) cs∧cellsAt w b (off+i*sz) cs:=by
   intro i hi
   obtain⟨b',off',cs',e,-,hl',hR',hcs'⟩:=hs.elem i hi
   cases e
   exact⟨cs',hl',hR',hcs'⟩
  have hlen:((u::us).map enc).length=(u::us).length:=by simp
  rw[←hlen]
  refine .sl sz ((u::us).map enc) b off cap (fun i j=>(w.cell? ⟨b,off+i*sz+j,none⟩).getD undef) (fun h=>h) hAb (by rw[hlen];exact hs.cap_le) hs.cap_max (fun r hr=>?_) (fun r hr=>?_) (fun i j hi hj=>?_) (fun i j row d hi hj=>?_)
  ·obtain⟨x,-,rfl⟩:=List.mem_map.1 hr;exact(hen x).1
  ·obtain⟨x,-,rfl⟩:=List.mem_map.1 hr;exact(hen x).2
  ·obtain⟨cs',hl',-,hcs'⟩:=key i (by simpa using hi)
   rw[hcs' j (by omega)];rfl
  ·have hi':i < (u::us).length:=by have:=(List.getElem?_eq_some_iff.1 hi).1;simpa using this
   obtain⟨cs',hl',hR',hcs'⟩:=key i hi'
   rw[List.getElem?_map,List.getElem?_eq_getElem hi']at hi
   simp only[Option.map_some,Option.some.injEq]at hi
   subst hi
   have hj':j < cs'.length:=by rw[←hR'.1];exact(List.getElem?_eq_some_iff.1 hj).1
   rw[hcs' j hj']
   exact hR'.2 j d _ hj (List.getElem?_eq_getElem hj')
section
variable {H:Type}{enc:TypeId × Value→H}{w:World}{base:Nat}{spare:Nat→Bool}{held:Bool}
theorem Tryz.sizePfx:Tryz.prog.cellsOf 32=2:=by kernel_rfl
theorem Tryz.sizeInt1:Tryz.prog.cellsOf 3=1:=by kernel_rfl
theorem rd_pfx:Rd enc Tryz.prog w base spare held 32 Pfx.R:=by
 intro fuel cs x hx
 have hl:=rd_len Tryz.underlying32 hx
 rw[Tryz.sizePfx]at hl
 obtain⟨a,ha⟩:=rd_field Tryz.underlying32 hx 0 rfl (rd_int Tryz.underlying3)
 obtain⟨b,hb⟩:=rd_field Tryz.underlying32 hx 1 rfl (rd_int Tryz.underlying3)
 match cs,hl with
 |[c0,c1],_=>
  simp[Tryz.sizeInt1,IntR]at ha hb
  exact⟨⟨a,b⟩,by simp[Pfx.R,ha.1,hb.1]⟩
theorem repDs_ints (l:List Int):RepDs NM w (l.map fun n=> .v (.int .i64 n)) (l.map fun n=> .int .i64 n):=by
 refine⟨by simp,fun j d x hj hx=>?_⟩
 rw[List.getElem?_map,Option.map_eq_some_iff]at hj hx
 obtain⟨a,ha,rfl⟩:=hj
 obtain⟨c,hc,rfl⟩:=hx
 rw[ha]at hc
 obtain rfl:=Option.some.inj hc
 exact .v _
end
theorem repDs_n {M:Nat→Prop}{w:World}:RepDs M w [] []:=⟨rfl,fun j d x hj _=>by simp at hj⟩
theorem repDs_c {M:Nat→Prop}{w:World}{d:D}{v:Value}{ds:List D}{vs:List Value}(h:RepD M w d v)(g:RepDs M w ds vs):RepDs M w (d::ds) (v::vs):=⟨by simp[g.1],fun j e x hj hx=>by
 cases j with
 |zero=>simp at hj hx;subst hj;subst hx;exact h
 |succ j=>exact g.2 j e x (by simpa using hj) (by simpa using hx)⟩
theorem law_of {P:Program}{f:Nat}{args:List D}{vs:List Value}{W:World}(hp:PSpec P f args (.v (.bool true)))(hds:RepDs NM W args vs)(hg:GInv NM W:=fun x hx=>absurd hx (by simp[gTab])):Calls P f vs.toArray W fun e w'=>e= .returned (.bool true)∧Ext W w':=by
 refine(hp.2 NM W vs (fun b h=>h.elim) hg hds).mono ?_
 rintro e w' ⟨v,rfl,hv,hx⟩
 cases hv
 exact⟨rfl,hx⟩
section
variable {H:Type}{enc:TypeId × Value→H}{w:World}{base:Nat}{spare:Nat→Bool}{held:Bool}
end
end
section
open Go.Proofs Go.ChangeShapes Go.WideShapes Go.Deep
section
variable {H:Type}{enc:TypeId × Value→H}{w:World}{base:Nat}{spare:Nat→Bool}{held:Bool}
theorem Tryz.sizeRul:Tryz.prog.cellsOf 34=4:=by kernel_rfl
theorem rd_rul:Rd enc Tryz.prog w base spare held 34 fun cs (r:Rul)=>cs=[.int .i64 r.min,.int .i64 r.max,.int .i64 r.usual,.int .i64 r.cool]:=by
 intro fuel cs x hx
 have hl:=rd_len Tryz.underlying34 hx
 rw[Tryz.sizeRul]at hl
 obtain⟨a,ha⟩:=rd_field Tryz.underlying34 hx 0 rfl (rd_int Tryz.underlying3)
 obtain⟨b,hb⟩:=rd_field Tryz.underlying34 hx 1 rfl (rd_int Tryz.underlying3)
 obtain⟨c,hc⟩:=rd_field Tryz.underlying34 hx 2 rfl (rd_int Tryz.underlying3)
 obtain⟨d,hd⟩:=rd_field Tryz.underlying34 hx 3 rfl (rd_int Tryz.underlying3)
 match cs,hl with
 |[c0,c1,c2,c3],_=>
  simp[Tryz.sizeInt1,IntR]at ha hb hc hd
  exact⟨⟨a,b,c,d⟩,by simp[ha.1,hb.1,hc.1,hd.1]⟩
theorem argw_sl {P:Program}{α:Type}{Q:Value→α→Prop}{S:α→Prop}{r:Reach}{b0:Nat}{t e:TypeId}{v:Value}{d:DataW H}{p:List MemPlace}(ht:P.underlying t=some (.slice e))(hval:Value.okWide P w r b0 t v)(hd:DataW.Trod enc P w base spare held t v d p)
 (hr:RdW enc P w base spare held t (fun cs a=>∃u,cs=[u]∧Q u a) S):∃a,Q v a∧((∀n∈d.weights P t,n≤reachBytes)→S a):=by
 obtain⟨a,len,cap,rfl⟩:=okWide_slice ht hval
 obtain⟨fuel,hf⟩:=hd
 obtain⟨l,⟨u,hu,hq⟩,hs⟩:=hr _ _ _ hf
 simp[Value.cells]at hu
 subst hu
 exact⟨l,hq,hs⟩
theorem Tryz.sizeCmd:Tryz.prog.cellsOf 36=10:=by kernel_rfl
theorem rd_cmd:Rd enc Tryz.prog w base spare held 36 fun cs (c:Cmd)=>RepDs NM w (encC c) cs:=by
 intro fuel cs x hx
 have hl:=rd_len Tryz.underlying36 hx
 rw[Tryz.sizeCmd]at hl
 obtain⟨o,ho⟩:=rd_field Tryz.underlying36 hx 0 rfl (rd_int Tryz.underlying3)
 obtain⟨a,ha⟩:=rd_field Tryz.underlying36 hx 1 rfl (rd_int Tryz.underlying3)
 obtain⟨b,hb⟩:=rd_field Tryz.underlying36 hx 2 rfl (rd_int Tryz.underlying3)
 obtain⟨c,hc⟩:=rd_field Tryz.underlying36 hx 3 rfl (rd_int Tryz.underlying3)
 obtain⟨p,hp⟩:=rd_field Tryz.underlying36 hx 4 rfl rd_pfx
 obtain⟨r,hr⟩:=rd_field Tryz.underlying36 hx 5 rfl rd_rul
 match cs,hl with
 |[c0,c1,c2,c3,c4,c5,c6,c7,c8,c9],_=>
  simp[Tryz.sizePfx,Tryz.sizeInt1,Tryz.sizeRul,IntR,Pfx.R]at ho ha hb hc hp hr
  refine⟨⟨o,a,b,c,p,r⟩,?_⟩
  rw[ho.1,ha.1,hb.1,hc.1,hp.1,hp.2,hr.1,hr.2.1,hr.2.2.1,hr.2.2.2]
  exact repDs_ints [o,a,b,c,p.at_,p.len,r.min,r.max,r.usual,r.cool]
theorem rdw_cmd:RdW enc Tryz.prog w base spare held 36 (fun cs (c:Cmd)=>RepDs NM w (encC c) cs) (fun _=>True):=rdw_of rd_cmd
theorem rdw_cmds:RdW enc Tryz.prog w base spare held 46 (fun cs (l:List Cmd)=>∃v,cs=[v]∧RepD NM w (.sl 10 (l.map encC)) v) (fun _=>True):=by
 have h:=rdw_slice (enc:=enc) (base:=base) (spare:=spare) (held:=held) Tryz.underlying46 Tryz.sizeCmd (rdw_cmd (w:=w))
 intro fuel cs x hx
 obtain⟨l,⟨v,rfl,hs⟩,hw⟩:=h fuel cs x hx
 refine⟨l,⟨v,rfl,isSl_rep (sz:=10) (by omega) (fun a=>⟨rfl,fun d hd=>?_⟩) hs⟩,fun _=>trivial⟩
 simp[encC]at hd
 rcases hd with rfl|rfl|rfl|rfl|rfl|rfl|rfl|rfl|rfl|rfl<;>rfl
end
end
section
open Go.Proofs Go.ChangeShapes Go.WideShapes Go.ChangeAt
theorem siteCools_own:ownKnob Tryz.prog.godebug=Option.none:=by kernel_rfl
theorem siteCools_laidOut:laidOutB Tryz.prog=true:=by kernel_rfl
theorem siteCools_lifted (os:Os)(started:os.Started)(H:Type)(enc:TypeId × Value→H):
 ReturnsInHanded {} Tryz.checked os 5 .any (Rows.siteCoolsSpec.pre6 enc Tryz.prog Tryz.f5 Rows.siteCoolsRow.domain false) (Rows.siteCoolsSpec.post enc Tryz.prog Tryz.f5 false true false false):=by
 refine returnsInHanded_of_change_sized (C:=Tryz.checked) siteCools_own started (by kernel_rfl) Tryz.func5
  (ChangeSpec.witness6 (enc:=enc) (C:=Tryz.checked) false ⟨#[],#[.slice none 0 0,.slice none 0 0,.int .i64 0,.int .i64 0],[]⟩ 8 (by kernel_rfl) (by kernel_rfl) (by kernel_rfl) (by kernel_rfl)) ?_
 intro W base args ds gs before hval0 hW hcnd hsz _
 have hval:∀(j:Nat) t v,Tryz.f5.params[j]? =some t→args[j]? =some v→Value.okWide Tryz.prog W .any base t v:=hval0
 have hW':=hW
 obtain⟨p,q,hA0,hV,rfl,hfz,hnd⟩:=hW
 have hA:DataW.TrodAll enc Tryz.prog W 0 (fun _=>true) true Tryz.f5.params.toList args.toList ds p:=hA0
 rw[Tryz.params5]at hA hval
 obtain⟨v0,vs0,d0,ds0,p0,q0,hargs,rfl,rfl,h0,r0⟩:=trodAll_cons hA
 obtain⟨v1,vs1,d1,ds1,p1,q1,rfl,rfl,rfl,h1,r1⟩:=trodAll_cons r0
 obtain⟨v2,vs2,d2,ds2,p2,q2,rfl,rfl,rfl,h2,r2⟩:=trodAll_cons r1
 obtain⟨v3,vs3,d3,ds3,p3,q3,rfl,rfl,rfl,h3,r3⟩:=trodAll_cons r2
 obtain⟨rfl,rfl,rfl⟩:=trodAll_nil r3
 obtain rfl:args=#[v0,v1,v2,v3]:=by cases args;simp_all
 obtain⟨rfl,rfl⟩:=trodVars_none hV
 obtain⟨a0,w0,s0⟩:=argw_sl Tryz.underlying46 (hval 0 46 v0 rfl rfl) h0 rdw_cmds
 obtain⟨a1,w1,s1⟩:=argw_sl Tryz.underlying46 (hval 1 46 v1 rfl rfl) h1 rdw_cmds
 obtain⟨a2,rfl,w2⟩:=arg_int Tryz.underlying3 (hval 2 3 v2 rfl rfl) h2
 obtain⟨a3,rfl,w3⟩:=arg_int Tryz.underlying3 (hval 3 3 v3 rfl rfl) h3
 clear hA0 hval0
 refine(law_of (siteCools_p a0 a1 a2 a3 w2.1 w2.2 w3.1 w3.2) (vs:=[v0,v1,.int .i64 a2,.int .i64 a3]) (repDs_c w0 (repDs_c w1 (repDs_c (.v (.int .i64 a2)) (repDs_c (.v (.int .i64 a3)) repDs_n))))).mono fun e W' ⟨he,bel⟩=>?_
 subst he
 exact⟨_,rfl,_,_,_,[],_,[],hW',trodAll_mk1 (shut_bool Tryz.underlying4 _),(trodAll_cons_mk (Below.trod siteCools_laidOut (by kernel_rfl) (of_decide_eq_true (by kernel_rfl)) h0 bel (trod_lts h0)) (trodAll_cons_mk (Below.trod siteCools_laidOut (by kernel_rfl) (of_decide_eq_true (by kernel_rfl)) h1 bel (trod_lts h1)) (trodAll_cons_mk (Below.trod siteCools_laidOut (by kernel_rfl) (of_decide_eq_true (by kernel_rfl)) h2 bel (trod_lts h2)) (trodAll_cons_mk (Below.trod siteCools_laidOut (by kernel_rfl) (of_decide_eq_true (by kernel_rfl)) h3 bel (trod_lts h3)) trodAll_mk0)))),rfl,bel.frame _,fun h=>by cases h⟩
set_option maxHeartbeats 0 in
theorem siteCools_closed:joinedFacts Tryz.prog 5 Tryz.f5 Rows.siteCoolsSpec Rows.siteCoolsRow=true:=by
 unfold joinedFacts
 repeat' (with_reducible refine Bool.and_eq_true_iff.2 ⟨?_,?_⟩)
 all_goals as_aux_lemma=>kernel_rfl
theorem siteCools_named:Tryz.pinned.checked.prog.funcNamed Rows.siteCoolsRow.func=some 5:=by kernel_rfl
theorem siteCools_inst:Tryz.f5.isInstance Tryz.pinned.checked.prog Rows.siteCoolsRow.origin Rows.siteCoolsRow.targs:=of_decide_eq_true (by kernel_rfl)
theorem siteCools_wrap:Tryz.f5.isWrapper Tryz.pinned.checked.prog Rows.siteCoolsRow.wrapper Rows.siteCoolsRow.mainSum:=by unfold Func.isWrapper;first|(rw[if_pos (by decide+kernel)];kernel_rfl)|(rw[if_neg (by decide+kernel)];exact⟨rfl,rfl⟩)
theorem siteCools_over:Rows.siteCoolsRow.holds Tryz.pinned (OpenSpec.ofChange Rows.siteCoolsSpec):=
 OpenClaim.holds_of_wide 5 Tryz.f5 rfl rfl rfl rfl rfl rfl rfl ⟨rfl,rfl,rfl,rfl,rfl⟩ rfl rfl rfl rfl rfl siteCools_named Tryz.func5 siteCools_closed siteCools_inst siteCools_wrap
  (fun os started H enc _=>siteCools_lifted os started H enc)
theorem siteCools_holds:Rows.SiteCoolsSaid:=siteCools_over
#print axioms siteCools_holds
end
end Go.Proofs.YtmicljipaiohkaaGreat
