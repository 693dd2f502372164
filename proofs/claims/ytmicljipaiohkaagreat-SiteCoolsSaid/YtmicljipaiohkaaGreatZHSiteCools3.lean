/- Texts of this work, joined. -/
import Derived.Test.YtmicljipaiohkaaGreatZHSiteCools2
import Derived.Shelf.Slices.SearchI
import Derived.IntWalk
import Derived.RangeFuncNested
import Derived.RangeFuncBound
import Derived.RangeFuncCalls
import Derived.RangeFuncLeaves
import Derived.Shelf.Abstract
import Derived.Shelf.RegionOpen
import Derived.OwnWalkIn
import Derived.TacticsInMore
import Derived.LoopNIn
import Derived.LoopIn
set_option linter.unusedSimpArgs false
set_option linter.unusedVariables false
set_option maxRecDepth 100000
set_option maxHeartbeats 16000000
namespace Go.Proofs.YtmicljipaiohkaaGreat
open Go Go.RowKit
section
open Go.Proofs
def Pfx.meets (p q:Pfx):Bool:=meetP p.at_ p.len q.at_ q.len
def Pfx.low (p:Pfx):Pfx:=⟨p.at_,p.len+1⟩
def Pfx.high (p:Pfx):Pfx:=⟨p.at_+szI (p.len+1),p.len+1⟩
def Pfx.right (p:Pfx):Bool:=rightB p.at_ p.len
def Pfx.v (p:Pfx):Value:= .agg #[.int .i64 p.at_,.int .i64 p.len]
theorem right_of {a l:Int}(h0:0≤l)(h1:l≤16)(h2:0≤a)(h3:a≤65535)(h4:a % szI l=0):rightB a l=true:=by
 unfold rightB;rw[chk_in h0 h1 h2 h3];unfold szI at h4;simp[h4]
theorem szI_half {l:Int}(h0:0≤l)(h1:l < 16):szI l=2*szI (l+1):=by
 unfold szI
 have:(16 - l).toNat=(16 - (l+1)).toNat+1:=by omega
 rw[this,Int.pow_succ]
 omega
theorem szI_dvd {l m:Int}(h0:0≤m)(h1:m≤l)(h2:l≤16):∃k:Int,szI m=szI l*k∧1≤k:=by
 refine⟨2 ^ (l - m).toNat,?_,?_⟩
 ·unfold szI
  rw[←Int.pow_add]
  congr 1
  omega
 ·have h3:=Nat.one_le_two_pow (n:=(l - m).toNat)
  have h4:((2 ^ (l - m).toNat:Nat):Int)=(2:Int) ^ (l - m).toNat:=by simp
  omega
theorem right_fit {a l:Int}(h:rightB a l=true):a+szI l≤65536:=by
 obtain⟨g1,g2,g3,g4,g5⟩:=right_bd h
 obtain⟨k,hk,hk1⟩:=szI_dvd (Int.le_refl 0) g1 g2
 have h0:szI 0=65536:=by decide
 rw[h0]at hk
 have hs:=szI_bd g1
 have hd:szI l ∣ 65536 - a:=by
  refine Int.dvd_sub ⟨k,hk⟩ (Int.dvd_of_emod_eq_zero g5)
 have:=Int.le_of_dvd (by omega) hd
 omega
def insQ (p q:Pfx):Bool:=insP p.at_ p.len q.at_ q.len
def Pfx.hi (p:Pfx):Int:=p.at_+szI p.len
theorem Pfx.bd {p:Pfx}(h:p.right=true):0≤p.len∧p.len≤16∧0≤p.at_∧p.at_≤65535∧p.at_ % szI p.len=0:=right_bd h
theorem Pfx.hi_bd {p:Pfx}(h:p.right=true):p.at_ < p.hi∧p.hi≤65536:=by
 have h1:=right_fit h
 obtain⟨g1,-⟩:=p.bd h
 have h2:=szI_bd g1
 unfold Pfx.hi;omega
theorem blk_iff {s a b:Int}(hs:0 < s)(hb:b % s=0):a - a % s=b↔b≤a∧a < b+s:=by
 have h1:=Int.emod_nonneg a (b:=s) (by omega)
 have h2:=Int.emod_lt_of_pos a hs
 constructor
 ·intro h;omega
 ·intro⟨h3,h4⟩
  have h5:(a - b) % s=a % s:=by rw[Int.sub_emod,hb,Int.sub_zero,Int.emod_emod]
  rw[Int.emod_eq_of_lt (by omega) (by omega)]at h5
  omega
theorem dvd_step {s x:Int}(hs:0 < s)(hx:0 < x)(hd:s ∣ x):s≤x:=Int.le_of_dvd hx hd
theorem nest {p q:Pfx}(hp:p.right=true)(hq:q.right=true)(hl:q.len≤p.len)(h1:p.at_ < q.hi)(h2:q.at_ < p.hi):q.at_≤p.at_∧p.hi≤q.hi:=by
 obtain⟨a1,a2,a3,a4,a5⟩:=p.bd hp
 obtain⟨b1,b2,b3,b4,b5⟩:=q.bd hq
 obtain⟨k,hk,hk1⟩:=szI_dvd b1 hl a2
 have s1:=szI_bd a1
 have s2:=szI_bd b1
 unfold Pfx.hi at*
 have dq:szI p.len ∣ q.at_:=Int.dvd_trans ⟨k,hk⟩ (Int.dvd_of_emod_eq_zero b5)
 have dp:szI p.len ∣ p.at_:=Int.dvd_of_emod_eq_zero a5
 have dm:szI p.len ∣ szI q.len:=⟨k,hk⟩
 refine⟨?_,?_⟩
 ·rcases Int.lt_or_le p.at_ q.at_ with h|h
  ·have:=dvd_step (by omega) (show 0 < q.at_ - p.at_ by omega) (Int.dvd_sub dq dp)
   omega
  ·exact h
 ·have:=dvd_step (by omega) (show 0 < q.at_+szI q.len - p.at_ by omega) (Int.dvd_sub (Int.dvd_add dq dm) dp)
  omega
theorem insQ_iff {p q:Pfx}:insQ p q=true↔p.right=true∧q.right=true∧q.len≤p.len∧q.at_≤p.at_∧p.at_ < q.hi:=by
 unfold insQ insP Pfx.right
 constructor
 ·intro h
  simp only[Bool.and_eq_true,decide_eq_true_eq,beq_iff_eq]at h
  obtain⟨⟨⟨h1,h2⟩,h3⟩,h4⟩:=h
  obtain⟨b1,b2,b3,b4,b5⟩:=right_bd h2
  have:=(blk_iff (by have:=szI_bd b1;omega) b5).1 h4
  exact⟨h1,h2,h3,this.1,this.2⟩
 ·intro⟨h1,h2,h3,h4,h5⟩
  obtain⟨b1,b2,b3,b4,b5⟩:=right_bd h2
  simp only[Bool.and_eq_true,decide_eq_true_eq,beq_iff_eq]
  exact⟨⟨⟨h1,h2⟩,h3⟩,(blk_iff (by have:=szI_bd b1;omega) b5).2 ⟨h4,h5⟩⟩
theorem le_mul1 {s k:Int}(hs:0≤s)(hk:1≤k):s≤s*k:=by
 have:=Int.mul_le_mul_of_nonneg_left hk hs
 rwa [Int.mul_one]at this
theorem szI_le {l m:Int}(h0:0≤m)(h2:l≤16)(h3:0≤l)(hm:m≤16):szI l≤szI m↔m≤l:=by
 constructor
 ·intro h
  rcases Int.lt_or_le l m with hlt|hle
  ·obtain⟨k,hk,hk1⟩:=szI_dvd (l:=m) (m:=l+1) (by omega) (by omega) hm
   have e:=szI_half h3 (by omega)
   have s1:=szI_bd h0
   have:szI m≤szI (l+1):=by rw[hk];exact le_mul1 (by have:=szI_bd (n:=l+1) (by omega);omega) hk1
   omega
  ·exact hle
 ·intro h
  obtain⟨k,hk,hk1⟩:=szI_dvd h0 h h2
  rw[hk]
  exact le_mul1 (by have:=szI_bd h3;omega) hk1
theorem insQ_hi {p q:Pfx}:insQ p q=true↔p.right=true∧q.right=true∧q.at_≤p.at_∧p.hi≤q.hi:=by
 rw[insQ_iff]
 constructor
 ·intro⟨h1,h2,h3,h4,h5⟩
  exact⟨h1,h2,nest h1 h2 h3 h5 (by have:=p.hi_bd h1;omega)⟩
 ·intro⟨h1,h2,h3,h4⟩
  have hp:=p.hi_bd h1
  obtain⟨a1,a2,-⟩:=p.bd h1
  obtain⟨b1,b2,-⟩:=q.bd h2
  exact⟨h1,h2,(szI_le b1 a2 a1 b2).1 (by unfold Pfx.hi at*;omega),h3,by omega⟩
theorem meets_iff {p q:Pfx}:p.meets q=true↔p.right=true∧q.right=true∧p.at_ < q.hi∧q.at_ < p.hi:=by
 have e:p.meets q=(insQ p q||insQ q p):=rfl
 rw[e,Bool.or_eq_true,insQ_iff,insQ_iff]
 constructor
 ·rintro (⟨h1,h2,h3,h4,h5⟩|⟨h1,h2,h3,h4,h5⟩)
  ·exact⟨h1,h2,h5,by have:=p.hi_bd h1;omega⟩
  ·exact⟨h2,h1,by have:=q.hi_bd h1;omega,h5⟩
 ·intro⟨h1,h2,h3,h4⟩
  rcases Int.le_total q.len p.len with hl|hl
  ·exact .inl ⟨h1,h2,hl,(nest h1 h2 hl h3 h4).1,h3⟩
  ·exact .inr ⟨h2,h1,hl,(nest h2 h1 hl h4 h3).1,h4⟩
theorem meets_comm (p q:Pfx):p.meets q=q.meets p:=by
 rw[Bool.eq_iff_iff,meets_iff,meets_iff]
 constructor<;>(intro⟨h1,h2,h3,h4⟩;exact⟨h2,h1,h4,h3⟩)
theorem holdB_iff {p:Pfx}{x:Int}:holdB p.at_ p.len x=true↔p.right=true∧p.at_≤x∧x < p.hi:=by
 unfold holdB within lastI Pfx.right Pfx.hi
 simp only[Bool.and_eq_true,decide_eq_true_eq]
 constructor
 ·intro⟨h1,h2,h3⟩;exact⟨h1,h2,by omega⟩
 ·intro⟨h1,h2,h3⟩;exact⟨h1,h2,by omega⟩
theorem holdP_eq (p:Pfx)(x:Int):holdP p.at_ p.len x=holdB p.at_ p.len x:=by
 rw[Bool.eq_iff_iff,holdB_iff]
 unfold holdP Pfx.right
 simp only[Bool.and_eq_true,decide_eq_true_eq,beq_iff_eq]
 constructor
 ·intro⟨h1,h2,h3,h4⟩
  obtain⟨b1,b2,b3,b4,b5⟩:=right_bd h1
  have:=(blk_iff (by have:=szI_bd b1;omega) b5).1 h4
  exact⟨h1,this.1,this.2⟩
 ·intro⟨h1,h2,h3⟩
  obtain⟨b1,b2,b3,b4,b5⟩:=right_bd h1
  have hf:=p.hi_bd h1
  exact⟨h1,by omega,by omega,(blk_iff (by have:=szI_bd b1;omega) b5).2 ⟨h2,h3⟩⟩
theorem sizeI_right {a l:Int}(h:rightB a l=true):sizeI a l=szI l:=by unfold sizeI;rw[if_pos h]
end
def idOK (n:Int):Bool:=decide (1≤n)&&decide (n≤65536)
theorem vids_p (n:Int):PSpec Tryz.prog 148 [.v (.int .i64 n)] (.v (.bool (idOK n))):=by
 cases e1:decide (n≥1)with
 |true=>
  have h1:decide (1≤n)=true:=e1
  refine pj Tryz.func148 Tryz.ntmps148 Tryz.results148 ?_
  refine wk1 ?_<;>intros
  all_goals(unfold idOK;rw[h1];exact DLe.refl _)
 |false=>
  have h1:decide (1≤n)=false:=e1
  refine pj Tryz.func148 Tryz.ntmps148 Tryz.results148 ?_
  refine wk1 ?_<;>intros
  all_goals(unfold idOK;rw[h1];exact DLe.refl _)
def manyF (f:Fce):Bool:=decide ((f.addrs.length:Int)>4)
def manyN (s:Sbn):Bool:=decide ((s.faces.length:Int)>8)||s.faces.any manyF
def manyV (v:Vpc):Bool:=decide ((v.ranges.length:Int)>4)||(decide ((v.subs.length:Int)>6)||v.subs.any manyN)
theorem many11_p (f:Fce):PSpec Tryz.prog 231 [.agg (encF f)] (.v (.bool (manyF f))):=by
 refine pj Tryz.func231 Tryz.ntmps231 Tryz.results231 ?_
 exact wk0
 all_goals exact DLe.refl _
theorem many1_p (s:Sbn):PSpec Tryz.prog 229 [.agg (encN s)] (.v (.bool (manyN s))):=by
 unfold manyN
 by_cases h:s.faces.length>8
 ·have h1:decide ((s.faces.length:Int)>8)=true:=by simp;omega
  rw[h1]
  refine pj Tryz.func229 Tryz.ntmps229 Tryz.results229 ?_
  exact wk0
  all_goals exact DLe.refl _
 ·have h1:decide ((s.faces.length:Int)>8)=false:=by simp;omega
  have hc:=cntf_Face encF_len manyF s.faces 231 [] (by omega) (fun f _=>many11_p f)
  rw[h1]
  refine pj Tryz.func229 Tryz.ntmps229 Tryz.results229 ?_
  exact wk0
  all_goals exact DLe.refl _
theorem many_p (v:Vpc):PSpec Tryz.prog 180 [.agg (encV v)] (.v (.bool (manyV v))):=by
 unfold manyV
 cases h1:decide ((v.ranges.length:Int)>4)with
 |true=>
  refine pj Tryz.func180 Tryz.ntmps180 Tryz.results180 ?_
  exact wk0
  all_goals exact DLe.refl _
 |false=>
  cases h2:decide ((v.subs.length:Int)>6)with
  |true=>
   refine pj Tryz.func180 Tryz.ntmps180 Tryz.results180 ?_
   exact wk0
   all_goals exact DLe.refl _
  |false=>
   have hl:v.subs.length≤6:=by simp at h2;omega
   have hc:=cntf_Sub encN_len manyN v.subs 229 [] (by omega) (fun f _=>many1_p f)
   refine pj Tryz.func180 Tryz.ntmps180 Tryz.results180 ?_
   exact wk0
   all_goals exact DLe.refl _
theorem manyV_ok {v:Vpc}(h:manyV v=false):v.ranges.length≤4∧v.subs.length≤6∧∀s∈v.subs,s.faces.length≤8∧∀f∈s.faces,f.addrs.length≤4:=by
 simp only[manyV,manyN,manyF,Bool.or_eq_false_iff,decide_eq_false_iff_not,List.any_eq_false]at h
 refine⟨by omega,by omega,fun s hs=>?_⟩
 have h1:=h.2.2 s hs
 simp only[Bool.not_eq_true,Bool.or_eq_false_iff,decide_eq_false_iff_not,List.any_eq_false,decide_eq_true_eq]at h1
 exact⟨by omega,fun f hf=>by have h2:=h1.2 f hf;revert h2;simp[manyF];omega⟩
def holdsV (v:Vpc)(p:Pfx):Bool:=v.ranges.any fun r=>insQ p r.at_
theorem holds1_p (r:Rng)(p:Pfx):PSpec Tryz.prog 214 [.agg (encG r),.ept (encP p)] (.v (.bool (insQ p r.at_))):=by
 have hi:PSpec Tryz.prog 43 [.agg (encP p),.agg (encP r.at_)] (.v (.bool (insQ p r.at_))):=inside_p p r.at_
 refine pj Tryz.func214 Tryz.ntmps214 Tryz.results214 ?_
 exact wk0
theorem vholds_p (v:Vpc)(p:Pfx)(hl:v.ranges.length≤1000000000):PSpec Tryz.prog 149 [.agg (encV v),.agg (encP p)] (.v (.bool (holdsV v p))):=by
 have hc:=cntf_Range encG_len (fun r=>insQ p r.at_) v.ranges 214 [.ept (encP p)] hl (fun r _=>holds1_p r p)
 refine pj Tryz.func149 Tryz.ntmps149 Tryz.results149 ?_
 exact wk0
theorem holds_p (p:Pfx)(x:Int):PSpec Tryz.prog 25 [.agg (encP p),.v (.int .i64 x)] (.v (.bool (holdP p.at_ p.len x))):=pspec_flat (fnok_of Tryz.func25 (by kernel_rfl) rfl) (by intro d hd;simp at hd;(repeat(first|(obtain rfl:=hd;rfl)|(rcases hd with rfl|hd; · rfl)))) rfl rfl (fun w=>holds_any _ _ _ _)
def innB (p:Pfx)(x:Int):Bool:=holdP p.at_ p.len x&&(decide (x>p.at_)&&decide (x < p.at_+szI p.len - 1))
theorem inner_p (p:Pfx)(x:Int):PSpec Tryz.prog 219 [.agg (encP p),.v (.int .i64 x)] (.v (.bool (innB p x))):=by
 have hh:=holds_p p x
 unfold innB
 cases h1:holdP p.at_ p.len x with
 |false=>
  rw[h1]at hh
  refine pj Tryz.func219 Tryz.ntmps219 Tryz.results219 ?_
  exact wk0
  all_goals exact DLe.refl _
 |true=>
  have hr:p.right=true:=(holdB_iff.1 (by rw[←holdP_eq];exact h1)).1
  obtain⟨b1,b2,b3,b4,-⟩:=p.bd hr
  have hs:=szI_bd b1
  have hsi:=size_p p
  rw[sizeI_right hr]at hsi
  have hw1:IntKind.i64.wrap (p.at_+szI p.len)=p.at_+szI p.len:=by rw[IntKind.wrap_i64];omega
  have hw2:IntKind.i64.wrap (p.at_+szI p.len - 1)=p.at_+szI p.len - 1:=by rw[IntKind.wrap_i64];omega
  rw[h1]at hh
  generalize szI p.len=Z at*
  cases h2:decide (x>p.at_)with
  |false=>
   refine pj Tryz.func219 Tryz.ntmps219 Tryz.results219 ?_
   exact wk0
   all_goals exact DLe.refl _
  |true=>
   refine pj Tryz.func219 Tryz.ntmps219 Tryz.results219 ?_
   exact wk0
   all_goals exact DLe.refl _
def risB {α:Type}(key:α→Int):List α→Bool
 |a::b::l=>decide (key a < key b)&&risB key (b::l)
 |_=>true
theorem risB_at {α:Type}{key:α→Int}:∀(l:List α),risB key l=true↔∀j (h:j+1 < l.length),key l[j] < key l[j+1]
 |[]=>by simp[risB]
 |[a]=>by simp[risB]
 |a::b::l=>by
  have ih:=risB_at (key:=key) (b::l)
  simp only[risB,Bool.and_eq_true,decide_eq_true_eq,ih]
  constructor
  ·rintro⟨h1,h2⟩ j hj
   cases j with
   |zero=>exact h1
   |succ j=>exact h2 j (by simpa using hj)
  ·intro h
   exact⟨h 0 (by simp),fun j hj=>h (j+1) (by simpa using hj)⟩
theorem risB_pair {α:Type}{key:α→Int}:∀(l:List α),risB key l=true↔l.Pairwise fun a b=>key a < key b
 |[]=>by simp[risB]
 |[a]=>by simp[risB]
 |a::b::l=>by
  have ih:=risB_pair (key:=key) (b::l)
  simp only[risB,Bool.and_eq_true,decide_eq_true_eq,ih]
  constructor
  ·rintro⟨h1,h2⟩
   refine List.pairwise_cons.2 ⟨fun x hx=>?_,h2⟩
   rcases List.mem_cons.1 hx with rfl|hx
   ·exact h1
   ·have:=(List.pairwise_cons.1 h2).1 x hx;omega
  ·intro h
   obtain⟨h1,h2⟩:=List.pairwise_cons.1 h
   exact⟨h1 b (by simp),h2⟩
theorem rises_Range {α:Type}{enc:α→List D}(henc:∀x,(enc x).length=3)(key:α→Int)(l:List α)(g:Nat)(hl:l.length≤1000000000)(hc:∀x∈l,PSpec Tryz.prog g [.agg (enc x)] (.v (.int .i64 (key x)))):
 PSpec Tryz.prog 181 [.sl 3 (l.map enc),.clo g []] (.v (.bool (risB key l))):=by
 refine pj Tryz.func181 Tryz.ntmps181 Tryz.results181 ?_
 refine wk1 ?_<;>intros
 refine loopG tab_ok mixed (fun m e h=>∃k:Nat,1≤k∧(∀j (h:j+1 < l.length),j+1 < k→key l[j] < key l[j+1])∧m=l.length - k∧e=[(5,.d (.v (.int .i64 k))),(4,.d (.v (.bool false))),(1,.d (.clo g [])),(0,.d (.sl 3 (l.map enc)))]∧h=[]) _ _ _ ⟨1,Nat.le_refl _,fun j h h1=>by omega,rfl,rfl,rfl⟩ ?_ ?_
 ·exact weak_forget [] (by simp) rfl ⟨rfl,rfl,rfl,rfl,trivial⟩ bl bl
 ·rintro m e h ⟨k,hk1,hok,hm,rfl,rfl⟩ CL hCL
  by_cases hlt:k < l.length
  ·obtain⟨x,hx⟩:∃x,l[k - 1]? =some x:=⟨_,List.getElem?_eq_getElem (by omega)⟩
   obtain⟨y,hy⟩:∃y,l[k]? =some y:=⟨_,List.getElem?_eq_getElem hlt⟩
   have hltI:(k:Int) < (l.length:Int):=by omega
   have hwr:=wi k (by omega)
   have hwm:IntKind.i64.wrap ((k:Int) - 1)=((k - 1:Nat):Int):=by rw[IntKind.wrap_i64];omega
   have hlx:=henc x
   have hly:=henc y
   have htx:(enc x).take 3=enc x:=List.take_of_length_le (by omega)
   have hty:(enc y).take 3=enc y:=List.take_of_length_le (by omega)
   have hcx:=hc x (List.mem_of_getElem? hx)
   have hcy:=hc y (List.mem_of_getElem? hy)
   have hxe:l[k - 1]'(by omega)=x:=by rw[List.getElem?_eq_getElem (by omega)]at hx;exact Option.some.inj hx
   have hye:l[k]=y:=by rw[List.getElem?_eq_getElem hlt]at hy;exact Option.some.inj hy
   replace hxe:=Lib.hid hxe
   replace hye:=Lib.hid hye
   replace hm:=Lib.hid hm
   cases hge:decide (key x≥key y)with
   |true=>
    have hr:risB key l=false:=by
     rw[Bool.eq_false_iff,ne_eq,risB_at]
     intro h
     have:=h (k - 1) (by omega)
     simp only[show k - 1+1=k by omega,hxe.out,hye.out]at this
     simp at hge;omega
    exact wk0
    all_goals(rw[hr];exact DLe.refl _)
   |false=>
    refine wk1 ?_<;>intros
    refine hCL _ _ _ _ _ ?_ ⟨k+1,by omega,fun j hj hjk=>?_,rfl,rfl,rfl⟩ (weak_forget [] (by simp) rfl ⟨rfl,rfl,rfl,rfl,trivial⟩ bl bl)
    ·have:=hm.out;omega
    ·rcases Nat.lt_or_ge (j+1) k with h|h
     ·exact hok j hj h
     ·obtain rfl:j=k - 1:=by omega
      simp only[show k - 1+1=k by omega,hxe.out,hye.out]
      simp at hge;omega
  ·have hltI:decide ((k:Int) < (l.length:Int))=false:=by simp;omega
   have hr:risB key l=true:=(risB_at l).2 fun j hj=>hok j hj (by omega)
   replace hm:=Lib.hid hm
   exact wk0
   all_goals(rw[hr];exact DLe.refl _)
theorem rises_Sub {α:Type}{enc:α→List D}(henc:∀x,(enc x).length=4)(key:α→Int)(l:List α)(g:Nat)(hl:l.length≤1000000000)(hc:∀x∈l,PSpec Tryz.prog g [.agg (enc x)] (.v (.int .i64 (key x)))):
 PSpec Tryz.prog 183 [.sl 4 (l.map enc),.clo g []] (.v (.bool (risB key l))):=by
 refine pj Tryz.func183 Tryz.ntmps183 Tryz.results183 ?_
 refine wk1 ?_<;>intros
 refine loopG tab_ok mixed (fun m e h=>∃k:Nat,1≤k∧(∀j (h:j+1 < l.length),j+1 < k→key l[j] < key l[j+1])∧m=l.length - k∧e=[(5,.d (.v (.int .i64 k))),(4,.d (.v (.bool false))),(1,.d (.clo g [])),(0,.d (.sl 4 (l.map enc)))]∧h=[]) _ _ _ ⟨1,Nat.le_refl _,fun j h h1=>by omega,rfl,rfl,rfl⟩ ?_ ?_
 ·exact weak_forget [] (by simp) rfl ⟨rfl,rfl,rfl,rfl,trivial⟩ bl bl
 ·rintro m e h ⟨k,hk1,hok,hm,rfl,rfl⟩ CL hCL
  by_cases hlt:k < l.length
  ·obtain⟨x,hx⟩:∃x,l[k - 1]? =some x:=⟨_,List.getElem?_eq_getElem (by omega)⟩
   obtain⟨y,hy⟩:∃y,l[k]? =some y:=⟨_,List.getElem?_eq_getElem hlt⟩
   have hltI:(k:Int) < (l.length:Int):=by omega
   have hwr:=wi k (by omega)
   have hwm:IntKind.i64.wrap ((k:Int) - 1)=((k - 1:Nat):Int):=by rw[IntKind.wrap_i64];omega
   have hlx:=henc x
   have hly:=henc y
   have htx:(enc x).take 4=enc x:=List.take_of_length_le (by omega)
   have hty:(enc y).take 4=enc y:=List.take_of_length_le (by omega)
   have hcx:=hc x (List.mem_of_getElem? hx)
   have hcy:=hc y (List.mem_of_getElem? hy)
   have hxe:l[k - 1]'(by omega)=x:=by rw[List.getElem?_eq_getElem (by omega)]at hx;exact Option.some.inj hx
   have hye:l[k]=y:=by rw[List.getElem?_eq_getElem hlt]at hy;exact Option.some.inj hy
   replace hxe:=Lib.hid hxe
   replace hye:=Lib.hid hye
   replace hm:=Lib.hid hm
   cases hge:decide (key x≥key y)with
   |true=>
    have hr:risB key l=false:=by
     rw[Bool.eq_false_iff,ne_eq,risB_at]
     intro h
     have:=h (k - 1) (by omega)
     simp only[show k - 1+1=k by omega,hxe.out,hye.out]at this
     simp at hge;omega
    exact wk0
    all_goals(rw[hr];exact DLe.refl _)
   |false=>
    refine wk1 ?_<;>intros
    refine hCL _ _ _ _ _ ?_ ⟨k+1,by omega,fun j hj hjk=>?_,rfl,rfl,rfl⟩ (weak_forget [] (by simp) rfl ⟨rfl,rfl,rfl,rfl,trivial⟩ bl bl)
    ·have:=hm.out;omega
    ·rcases Nat.lt_or_ge (j+1) k with h|h
     ·exact hok j hj h
     ·obtain rfl:j=k - 1:=by omega
      simp only[show k - 1+1=k by omega,hxe.out,hye.out]
      simp at hge;omega
  ·have hltI:decide ((k:Int) < (l.length:Int))=false:=by simp;omega
   have hr:risB key l=true:=(risB_at l).2 fun j hj=>hok j hj (by omega)
   replace hm:=Lib.hid hm
   exact wk0
   all_goals(rw[hr];exact DLe.refl _)
theorem rises_Face {α:Type}{enc:α→List D}(henc:∀x,(enc x).length=2)(key:α→Int)(l:List α)(g:Nat)(hl:l.length≤1000000000)(hc:∀x∈l,PSpec Tryz.prog g [.agg (enc x)] (.v (.int .i64 (key x)))):
 PSpec Tryz.prog 234 [.sl 2 (l.map enc),.clo g []] (.v (.bool (risB key l))):=by
 refine pj Tryz.func234 Tryz.ntmps234 Tryz.results234 ?_
 refine wk1 ?_<;>intros
 refine loopG tab_ok mixed (fun m e h=>∃k:Nat,1≤k∧(∀j (h:j+1 < l.length),j+1 < k→key l[j] < key l[j+1])∧m=l.length - k∧e=[(5,.d (.v (.int .i64 k))),(4,.d (.v (.bool false))),(1,.d (.clo g [])),(0,.d (.sl 2 (l.map enc)))]∧h=[]) _ _ _ ⟨1,Nat.le_refl _,fun j h h1=>by omega,rfl,rfl,rfl⟩ ?_ ?_
 ·exact weak_forget [] (by simp) rfl ⟨rfl,rfl,rfl,rfl,trivial⟩ bl bl
 ·rintro m e h ⟨k,hk1,hok,hm,rfl,rfl⟩ CL hCL
  by_cases hlt:k < l.length
  ·obtain⟨x,hx⟩:∃x,l[k - 1]? =some x:=⟨_,List.getElem?_eq_getElem (by omega)⟩
   obtain⟨y,hy⟩:∃y,l[k]? =some y:=⟨_,List.getElem?_eq_getElem hlt⟩
   have hltI:(k:Int) < (l.length:Int):=by omega
   have hwr:=wi k (by omega)
   have hwm:IntKind.i64.wrap ((k:Int) - 1)=((k - 1:Nat):Int):=by rw[IntKind.wrap_i64];omega
   have hlx:=henc x
   have hly:=henc y
   have htx:(enc x).take 2=enc x:=List.take_of_length_le (by omega)
   have hty:(enc y).take 2=enc y:=List.take_of_length_le (by omega)
   have hcx:=hc x (List.mem_of_getElem? hx)
   have hcy:=hc y (List.mem_of_getElem? hy)
   have hxe:l[k - 1]'(by omega)=x:=by rw[List.getElem?_eq_getElem (by omega)]at hx;exact Option.some.inj hx
   have hye:l[k]=y:=by rw[List.getElem?_eq_getElem hlt]at hy;exact Option.some.inj hy
   replace hxe:=Lib.hid hxe
   replace hye:=Lib.hid hye
   replace hm:=Lib.hid hm
   cases hge:decide (key x≥key y)with
   |true=>
    have hr:risB key l=false:=by
     rw[Bool.eq_false_iff,ne_eq,risB_at]
     intro h
     have:=h (k - 1) (by omega)
     simp only[show k - 1+1=k by omega,hxe.out,hye.out]at this
     simp at hge;omega
    exact wk0
    all_goals(rw[hr];exact DLe.refl _)
   |false=>
    refine wk1 ?_<;>intros
    refine hCL _ _ _ _ _ ?_ ⟨k+1,by omega,fun j hj hjk=>?_,rfl,rfl,rfl⟩ (weak_forget [] (by simp) rfl ⟨rfl,rfl,rfl,rfl,trivial⟩ bl bl)
    ·have:=hm.out;omega
    ·rcases Nat.lt_or_ge (j+1) k with h|h
     ·exact hok j hj h
     ·obtain rfl:j=k - 1:=by omega
      simp only[show k - 1+1=k by omega,hxe.out,hye.out]
      simp at hge;omega
  ·have hltI:decide ((k:Int) < (l.length:Int))=false:=by simp;omega
   have hr:risB key l=true:=(risB_at l).2 fun j hj=>hok j hj (by omega)
   replace hm:=Lib.hid hm
   exact wk0
   all_goals(rw[hr];exact DLe.refl _)
theorem rises_int (l:List Int)(g:Nat)(hl:l.length≤1000000000)(hc:∀x,PSpec Tryz.prog g [.v (.int .i64 x)] (.v (.int .i64 x))):
 PSpec Tryz.prog 232 [.sl 1 (l.map encA),.clo g []] (.v (.bool (risB (fun x=>x) l))):=by
 refine pj Tryz.func232 Tryz.ntmps232 Tryz.results232 ?_
 refine wk1 ?_<;>intros
 refine loopG tab_ok mixed (fun m e h=>∃k:Nat,1≤k∧(∀j (h:j+1 < l.length),j+1 < k→l[j] < l[j+1])∧m=l.length - k∧e=[(5,.d (.v (.int .i64 k))),(4,.d (.v (.bool false))),(1,.d (.clo g [])),(0,.d (.sl 1 (l.map encA)))]∧h=[]) _ _ _ ⟨1,Nat.le_refl _,fun j h h1=>by omega,rfl,rfl,rfl⟩ ?_ ?_
 ·exact weak_forget [] (by simp) rfl ⟨rfl,rfl,rfl,rfl,trivial⟩ bl bl
 ·rintro m e h ⟨k,hk1,hok,hm,rfl,rfl⟩ CL hCL
  by_cases hlt:k < l.length
  ·obtain⟨x,hx⟩:∃x,l[k - 1]? =some x:=⟨_,List.getElem?_eq_getElem (by omega)⟩
   obtain⟨y,hy⟩:∃y,l[k]? =some y:=⟨_,List.getElem?_eq_getElem hlt⟩
   have hltI:(k:Int) < (l.length:Int):=by omega
   have hwr:=wi k (by omega)
   have hwm:IntKind.i64.wrap ((k:Int) - 1)=((k - 1:Nat):Int):=by rw[IntKind.wrap_i64];omega
   have hcx:=hc x
   have hcy:=hc y
   have hxe:l[k - 1]'(by omega)=x:=by rw[List.getElem?_eq_getElem (by omega)]at hx;exact Option.some.inj hx
   have hye:l[k]=y:=by rw[List.getElem?_eq_getElem hlt]at hy;exact Option.some.inj hy
   replace hxe:=Lib.hid hxe
   replace hye:=Lib.hid hye
   replace hm:=Lib.hid hm
   cases hge:decide (x≥y)with
   |true=>
    have hr:risB (fun x=>x) l=false:=by
     rw[Bool.eq_false_iff,ne_eq,risB_at]
     intro h
     have:=h (k - 1) (by omega)
     simp only[show k - 1+1=k by omega,hxe.out,hye.out]at this
     simp at hge;omega
    exact wk0
    all_goals(rw[hr];exact DLe.refl _)
   |false=>
    refine wk1 ?_<;>intros
    refine hCL _ _ _ _ _ ?_ ⟨k+1,by omega,fun j hj hjk=>?_,rfl,rfl,rfl⟩ (weak_forget [] (by simp) rfl ⟨rfl,rfl,rfl,rfl,trivial⟩ bl bl)
    ·have:=hm.out;omega
    ·rcases Nat.lt_or_ge (j+1) k with h|h
     ·exact hok j hj h
     ·obtain rfl:j=k - 1:=by omega
      simp only[show k - 1+1=k by omega,hxe.out,hye.out]
      simp at hge;omega
  ·have hltI:decide ((k:Int) < (l.length:Int))=false:=by simp;omega
   have hr:risB (fun x=>x) l=true:=(risB_at l).2 fun j hj=>hok j hj (by omega)
   replace hm:=Lib.hid hm
   exact wk0
   all_goals(rw[hr];exact DLe.refl _)
def apaF:List Pfx→List Pfx→Bool
 |_,[]=>true
 |pre,p::l=>!(pre.any p.meets)&&apaF (pre++[p]) l
theorem apart1_p (q p:Pfx):PSpec Tryz.prog 236 [.agg (encP q),.ept (encP p)] (.v (.bool (p.meets q))):=by
 have hm:PSpec Tryz.prog 19 [.agg (encP p),.agg (encP q)] (.v (.bool (p.meets q))):=meets_p p q
 refine pj Tryz.func236 Tryz.ntmps236 Tryz.results236 ?_
 exact wk0
theorem drop_get {α:Type}{l:List α}{k:Nat}{x:α}(h:l[k]? =some x):l.drop k=x::l.drop (k+1):=by
 obtain⟨hk,rfl⟩:=List.getElem?_eq_some_iff.1 h
 exact List.drop_eq_getElem_cons hk
theorem apart_p (l:List Pfx)(hl:l.length≤1000000000):PSpec Tryz.prog 186 [.sl 2 (l.map encP)] (.v (.bool (apaF [] l))):=by
 refine pj Tryz.func186 Tryz.ntmps186 Tryz.results186 ?_
 refine wk1 ?_<;>intros
 refine loopL tab_ok mixed l (fun k=>apaF [] l=apaF (l.take k) (l.drop k)) (fun k=>[(7,.d (.v (.int .i64 k))),(6,.d (.v (.int .i64 l.length))),(5,.d (.sl 2 (l.map encP))),(2,.d (.v (.bool false))),(0,.d (.sl 2 (l.map encP)))]) (fun _=>[]) rfl (weak_forget [] (by simp) rfl ⟨rfl,rfl,rfl,rfl,rfl,trivial⟩ bl bl) ?_ ?_
 ·intro k p hp hk hI C hC
  have hkI:(k:Int) < (l.length:Int):=by omega
  have hwr:=wi k (by omega)
  have hcn:=cntf_Prefix encP_len p.meets (l.take k) 236 [.ept (encP p)] (by rw[List.length_take];omega) (fun q _=>apart1_p q p)
  rw[List.map_take]at hcn
  rw[drop_get hp]at hI
  simp only[apaF,←take_snoc hp]at hI
  replace hI:=Lib.hid hI
  have hkl:k≤l.length:=by omega
  cases ha:(l.take k).any p.meets with
  |true=>
   rw[ha]at hcn
   refine wk1 ?_<;>intros
   all_goals(rw[hI.out,ha];exact DLe.refl _)
  |false=>
   rw[ha]at hcn
   refine wk1 ?_<;>intros
   exact hC _ _ (by rw[hI.out,ha];rfl) (weak_forget _ (by simp) (by(try simp only[encP]);rfl) se bl bl)
 ·intro hI C
  rw[List.drop_length]at hI
  replace hI:=Lib.hid hI
  refine wk1 ?_<;>intros
  all_goals(rw[hI.out];exact DLe.refl _)
def faceB (at_:Pfx)(f:Fce):Bool:=idOK f.id&&(!((f.addrs.length:Int)==0)&&(risB (fun x=>x) f.addrs&&f.addrs.all (innB at_)))
def facesB (s:Sbn):Bool:=s.faces.all (faceB s.at_)&&(decide (s.faces.flatMap (·.addrs)).Nodup&&risB (·.id) s.faces)
theorem faces1_p (n:Int):PSpec Tryz.prog 233 [.v (.int .i64 n)] (.v (.int .i64 n)):=by
 refine pj Tryz.func233 Tryz.ntmps233 Tryz.results233 ?_
 exact wk0
theorem faces2_p (f:Fce):PSpec Tryz.prog 235 [.agg (encF f)] (.v (.int .i64 f.id)):=by
 refine pj Tryz.func235 Tryz.ntmps235 Tryz.results235 ?_
 exact wk0
def Cnt (ents:List (List Int × Int))(done:List Int):Prop:=∀a,lkE ents [a]=if a∈done then some 1 else none
theorem cnt_nil:Cnt [] []:=fun a=>by simp[lkE]
theorem cnt_snoc {ents:List (List Int × Int)}{done:List Int}(h:Cnt ents done){a:Int}(ha:a∉done):Cnt (upE ents [a] 1) (done++[a]):=by
 intro b
 rw[lkE_up,h b]
 by_cases hb:a=b
 ·subst hb;simp
 ·have hb':¬b=a:=fun e=>hb e.symm
  simp[hb,hb']
theorem nodup_snoc {l:List Int}{a:Int}:(l++[a]).Nodup↔l.Nodup∧a∉l:=by
 rw[List.nodup_append]
 simp
 intro _
 constructor
 ·intro h hm;exact h a hm rfl
 ·intro h b hb e;subst e;exact h hb
theorem faces_p (s:Sbn)(h8:s.faces.length≤8)(h4:∀f∈s.faces,f.addrs.length≤4):PSpec Tryz.prog 185 [.agg (encN s)] (.v (.bool (facesB s))):=by
 have hri:=rises_Face encF_len (·.id) s.faces 235 (by omega) (fun f _=>faces2_p f)
 refine pj Tryz.func185 Tryz.ntmps185 Tryz.results185 ?_
 refine wk1 ?_<;>intros
 refine loopG tab_ok mixed (fun m e h=>∃(k:Nat) (ents:List (List Int × Int)),k≤s.faces.length∧Cnt ents ((s.faces.take k).flatMap (·.addrs))∧((s.faces.take k).flatMap (·.addrs)).Nodup∧(∀f∈s.faces.take k,faceB s.at_ f=true)∧m=s.faces.length - k∧
  e=[(12,.d (.v (.int .i64 k))),(11,.d (.v (.int .i64 s.faces.length))),(10,.d (.sl 2 (s.faces.map encF))),(3,.mref 1),(2,.d (.v (.bool false))),(1,.ptr 0 0)]∧h=[.box 71 ((encN s).map .d),.mp 1 false ents]) _ _ _ ⟨0,[],Nat.zero_le _,cnt_nil,List.nodup_nil,fun f h=>by simp at h,rfl,rfl,rfl⟩ (weak_forget _ (by simp) (by(try simp only[encN]);rfl) se bl bl) ?_
 rintro m e h ⟨k,ents,hk,hcnt,hnd,hall,hm,rfl,rfl⟩ C hC
 by_cases hlt:k < s.faces.length
 ·have hkI:(k:Int) < (s.faces.length:Int):=by omega
  have hwr:=wi k (by omega)
  obtain⟨f,hf⟩:∃f,s.faces[k]? =some f:=⟨_,List.getElem?_eq_getElem hlt⟩
  have hfm:=List.mem_of_getElem? hf
  have hid:=vids_p f.id
  have hrf:=rises_int f.addrs 233 (by have:=h4 f hfm;omega) faces1_p
  have hfl:=h4 f hfm
  have hbad:faceB s.at_ f=false→facesB s=false:=fun h=>by
   unfold facesB
   rw[Bool.and_eq_false_iff]
   left
   rw[List.all_eq_false]
   exact⟨f,hfm,by rw[h];simp⟩
  replace hbad:=Lib.hid hbad
  replace hm:=Lib.hid hm
  replace hcnt:=Lib.hid hcnt
  replace hnd:=Lib.hid hnd
  replace hall:=Lib.hid hall
  have hfbd:faceB s.at_ f=(idOK f.id&&(!((f.addrs.length:Int)==0)&&(risB (fun x=>x) f.addrs&&f.addrs.all (innB s.at_)))):=rfl
  replace hfbd:=Lib.hid hfbd
  cases b1:idOK f.id with
  |false=>
   rw[b1]at hid
   refine wk1 ?_<;>intros
   all_goals(rw[hbad.out (by rw[hfbd.out,b1];rfl)];exact DLe.refl _)
  |true=>
  rw[b1]at hid
  cases b2:(f.addrs.length:Int)==0 with
  |true=>
   refine wk1 ?_<;>intros
   all_goals(rw[hbad.out (by rw[hfbd.out,b1,b2];rfl)];exact DLe.refl _)
  |false=>
  cases b3:risB (fun x=>x) f.addrs with
  |false=>
   rw[b3]at hrf
   refine wk1 ?_<;>intros
   all_goals(rw[hbad.out (by rw[hfbd.out,b1,b2,b3];rfl)];exact DLe.refl _)
  |true=>
  rw[b3]at hrf
  refine wk1 ?_<;>intros
  refine loopG tab_ok mixed (fun m e h=>∃(j:Nat) (ents:List (List Int × Int)),j≤f.addrs.length∧Cnt ents ((s.faces.take k).flatMap (·.addrs)++f.addrs.take j)∧((s.faces.take k).flatMap (·.addrs)++f.addrs.take j).Nodup∧(∀a∈f.addrs.take j,innB s.at_ a=true)∧m=f.addrs.length - j∧
   e=[(35,.d (.v (.int .i64 j))),(34,.d (.v (.int .i64 f.addrs.length))),(33,.d (.sl 1 (f.addrs.map encA))),(12,.d (.v (.int .i64 k))),(11,.d (.v (.int .i64 s.faces.length))),(10,.d (.sl 2 (s.faces.map encF))),(3,.mref 1),(2,.d (.v (.bool false))),(1,.ptr 0 0)]∧h=[.box 71 ((encN s).map .d),.mp 1 false ents]) _ _ _ ⟨0,ents,Nat.zero_le _,by simpa using hcnt.out,by simpa using hnd.out,fun f h=>by simp at h,rfl,rfl,rfl⟩ (weak_forget _ (by simp) (by(try simp only[encN]);rfl) se bl bl) ?_
  rintro m2 e h ⟨j,en2,hj,hcnt2,hnd2,hall2,hm2,rfl,rfl⟩ C2 hC2
  by_cases hlj:j < f.addrs.length
  ·have hjI:(j:Int) < (f.addrs.length:Int):=by omega
   have hwj:=wi j (by omega)
   obtain⟨a,ha⟩:∃a,f.addrs[j]? =some a:=⟨_,List.getElem?_eq_getElem hlj⟩
   have ham:=List.mem_of_getElem? ha
   have hin:=inner_p s.at_ a
   have hca:=hcnt2 a
   have htk:f.addrs.take (j+1)=f.addrs.take j++[a]:=take_snoc ha
   replace htk:=Lib.hid htk
   replace hm2:=Lib.hid hm2
   replace hall2:=Lib.hid hall2
   replace hnd2:=Lib.hid hnd2
   by_cases hd:a∈(s.faces.take k).flatMap (·.addrs)++f.addrs.take j
   ·rw[if_pos hd]at hca
    have hr:facesB s=false:=by
     have:¬(s.faces.flatMap (·.addrs)).Nodup:=by
      intro hn
      have hsub:((s.faces.take k).flatMap (·.addrs)++f.addrs.take (j+1)).Sublist (s.faces.flatMap (·.addrs)):=by
       conv=>rhs;rw[←List.take_append_drop k s.faces,drop_get hf,List.flatMap_append,List.flatMap_cons]
       exact List.Sublist.append (List.Sublist.refl _) ((List.take_sublist _ _).trans (List.sublist_append_left _ _))
      have:=hsub.nodup hn
      rw[htk.out,←List.append_assoc,nodup_snoc]at this
      exact this.2 hd
     unfold facesB
     simp[this]
    have hup:lkE (upE en2 [a] 2) [a]=some 2:=by rw[lkE_up,if_pos rfl]
    replace hcnt2:=Lib.hid hcnt2
    have hw2:IntKind.i64.wrap 2=2:=by decide
    have hgt:decide ((2:Int)>1)=true:=rfl
    exact wk0
    all_goals(rw[hr];exact DLe.refl _)
   ·rw[if_neg hd]at hca
    have hup:lkE (upE en2 [a] 1) [a]=some 1:=by rw[lkE_up,if_pos rfl]
    have hcs:=cnt_snoc hcnt2 hd
    replace hcnt2:=Lib.hid hcnt2
    replace hcs:=Lib.hid hcs
    have hw2:IntKind.i64.wrap 1=1:=by decide
    have hgt:decide ((1:Int)>1)=false:=rfl
    cases b4:innB s.at_ a with
    |false=>
     rw[b4]at hin
     have hr:facesB s=false:=hbad.out (by
      rw[hfbd.out,b1,b2,b3]
      have:f.addrs.all (innB s.at_)=false:=by rw[List.all_eq_false];exact⟨a,ham,by rw[b4];simp⟩
      rw[this];rfl)
     exact wk0
     all_goals(rw[hr];exact DLe.refl _)
    |true=>
     rw[b4]at hin
     refine wk1 ?_<;>intros
     refine hC2 _ _ _ _ _ ?_ ⟨j+1,upE en2 [a] 1,hlj,?_,?_,?_,rfl,rfl,rfl⟩ (weak_forget _ (by simp) (by(try simp only[encN]);rfl) se bl bl)
     ·have:=hm2.out;omega
     ·rw[htk.out,←List.append_assoc];exact hcs.out
     ·rw[htk.out,←List.append_assoc,nodup_snoc];exact⟨hnd2.out,hd⟩
     ·intro b hb
      rw[htk.out]at hb
      rcases List.mem_append.1 hb with hb|hb
      ·exact hall2.out b hb
      ·rw[List.mem_singleton.1 hb];exact b4
  ·obtain rfl:j=f.addrs.length:=by omega
   rw[List.take_length]at hcnt2 hnd2 hall2
   have hfl2:(s.faces.take (k+1)).flatMap (·.addrs)=(s.faces.take k).flatMap (·.addrs)++f.addrs:=by rw[take_snoc hf,List.flatMap_append];simp
   replace hm2:=Lib.hid hm2
   replace hcnt2:=Lib.hid hcnt2
   replace hnd2:=Lib.hid hnd2
   replace hall2:=Lib.hid hall2
   replace hfl2:=Lib.hid hfl2
   refine wk1 ?_<;>intros
   refine hC _ _ _ _ _ ?_ ⟨k+1,en2,hlt,?_,?_,?_,rfl,rfl,rfl⟩ (weak_forget _ (by simp) (by(try simp only[encN]);rfl) se bl bl)
   ·have:=hm.out;omega
   ·rw[hfl2.out];exact hcnt2.out
   ·rw[hfl2.out];exact hnd2.out
   ·intro g hg
    rw[take_snoc hf]at hg
    rcases List.mem_append.1 hg with hg|hg
    ·exact hall.out g hg
    ·rw[List.mem_singleton.1 hg,hfbd.out,b1,b2,b3]
     simp only[Bool.true_and,Bool.not_false]
     exact List.all_eq_true.2 hall2.out
 ·obtain rfl:k=s.faces.length:=by omega
  rw[List.take_length]at hcnt hnd hall
  have hr:facesB s=risB (·.id) s.faces:=by
   unfold facesB
   rw[List.all_eq_true.2 hall]
   simp[hnd]
  replace hr:=Lib.hid hr
  replace hcnt:=Lib.hid hcnt
  replace hnd:=Lib.hid hnd
  replace hall:=Lib.hid hall
  replace hm:=Lib.hid hm
  refine wk1 ?_<;>intros
  all_goals(rw[hr.out];exact DLe.refl _)
def rangeB (r:Rng):Bool:=idOK r.pool&&(chk r.at_.at_ r.at_.len==0)
def subB (v:Vpc)(s:Sbn):Bool:=idOK s.id&&(holdsV v s.at_&&facesB s)
def fineV (v:Vpc):Bool:=(idOK v.id&&(risB (·.at_.at_) v.ranges&&risB (·.id) v.subs))&&(v.ranges.all rangeB&&v.subs.all (subB v))
def chkV (v:Vpc):Int:=if manyV v then 2 else if fineV v&&(apaF [] (v.ranges.map (·.at_))&&apaF [] (v.subs.map (·.at_)))then 0 else 1
theorem vcheck1_p (r:Rng):PSpec Tryz.prog 182 [.agg (encG r)] (.v (.int .i64 r.at_.at_)):=by
 refine pj Tryz.func182 Tryz.ntmps182 Tryz.results182 ?_
 exact wk0
theorem vcheck2_p (s:Sbn):PSpec Tryz.prog 184 [.agg (encN s)] (.v (.int .i64 s.id)):=by
 refine pj Tryz.func184 Tryz.ntmps184 Tryz.results184 ?_
 exact wk0
theorem all_snoc {α:Type}{p:α→Bool}{l:List α}{k:Nat}{x:α}(h:l[k]? =some x):(l.take (k+1)).all p=((l.take k).all p&&p x):=by
 rw[take_snoc h,List.all_append];simp
theorem vcheck_p (v:Vpc):PSpec Tryz.prog 97 [.agg (encV v)] (.v (.int .i64 (chkV v))):=by
 have hmy:=many_p v
 cases hm:manyV v with
 |true=>
  rw[hm]at hmy
  have hr:chkV v=2:=by unfold chkV;rw[if_pos hm]
  rw[hr]
  refine pj Tryz.func97 Tryz.ntmps97 Tryz.results97 ?_
  exact wk0
 |false=>
 obtain⟨h4,h6,h8⟩:=manyV_ok hm
 rw[hm]at hmy
 have hid:=vids_p v.id
 have hr1:=rises_Range encG_len (fun r:Rng=>r.at_.at_) v.ranges 182 (by omega) (fun r _=>vcheck1_p r)
 have hr2:=rises_Sub encN_len (fun s:Sbn=>s.id) v.subs 184 (by omega) (fun r _=>vcheck2_p r)
 obtain⟨F0,hF0⟩:∃F0,F0=(idOK v.id&&(risB (·.at_.at_) v.ranges&&risB (·.id) v.subs)):=⟨_,rfl⟩
 have hap1:=apart_p (v.ranges.map (·.at_)) (by rw[List.length_map];omega)
 have hap2:=apart_p (v.subs.map (·.at_)) (by rw[List.length_map];omega)
 have hres:chkV v=if (F0&&v.ranges.all rangeB&&v.subs.all (subB v))&&(apaF [] (v.ranges.map (·.at_))&&apaF [] (v.subs.map (·.at_)))then 0 else 1:=by
  unfold chkV fineV
  rw[if_neg (by simp[hm]),hF0]
  simp only[Bool.and_assoc]
 rw[hres]
 replace hres:=Lib.hid hres
 replace h8:=Lib.hid h8
 replace hm:=Lib.hid hm
 replace hmy:=Lib.hid hmy
 cases b1:idOK v.id with
 |false=>
  rw[b1,Bool.false_and]at hF0
  subst hF0
  rw[b1]at hid
  refine pj Tryz.func97 Tryz.ntmps97 Tryz.results97 ?_
  have z1z:=hmy.out
  have z2z:=hmy.out
  refine wk1 ?_<;>intros
  refine loopG tab_ok mixed (fun m e h=>∃(k g:Nat) (X:Bool),k≤v.ranges.length∧X=(false&&(v.ranges.take k).all rangeB)∧m=v.ranges.length - k∧e=[(28,.d (.v (.int .i64 k))),(27,.d (.v (.int .i64 v.ranges.length))),(26,.d (.sl 3 (v.ranges.map encG))),(5,.d (.v (.bool X))),(4,.d (.v (.slice none 0 0))),(3,.own 1 g),(2,.d (.v (.int .i64 0))),(1,.ptr 0 0)]∧
   h=[.box 55 ((encV v).map .d),.row 32 2 g (dRows (((v.ranges.take k).map (·.at_)).map encP))]) _ _ _ ⟨0,0,false,Nat.zero_le _,by simp,rfl,rfl,rfl⟩ ((weak_adopt (Nat.zero_le _) 3 32 2 rfl).trans (weak_forget _ (by simp) (by(try simp only[encV]);rfl) se bl bl)) ?_
  rintro m e h ⟨k,g,X,hk,hX,hm0,rfl,rfl⟩ C hC
  by_cases hlt:k < v.ranges.length
  ·have hkI:(k:Int) < (v.ranges.length:Int):=by omega
   have hwr:=wi k (by omega)
   obtain⟨r,hr⟩:∃r,v.ranges[k]? =some r:=⟨_,List.getElem?_eq_getElem hlt⟩
   have hrp:=vids_p r.pool
   have hrc:=check_p r.at_
   have hlk:(List.take k v.ranges).length=k:=by rw[List.length_take];omega
   have hbnd:(k+1)*16≤140737488355328:=by omega
   have hal:=all_snoc (p:=rangeB) hr
   have hrb:rangeB r=(idOK r.pool&&(chk r.at_.at_ r.at_.len==0)):=rfl
   generalize chk r.at_.at_ r.at_.len=K at*
   generalize idOK r.pool=I at*
   replace hX:=Lib.hid hX
   replace hal:=Lib.hid hal
   replace hrb:=Lib.hid hrb
   replace hm0:=Lib.hid hm0
   replace hr:=Lib.hid hr
   have hr1':=hr.out
   refine wk3 ?_ ?_ ?_<;>intros
   all_goals(refine hC _ _ _ _ _ ?_ ⟨k+1,g+1,_,hlt,?_,rfl,rfl,rfl⟩ (weak_forget _ (by simp) (by rw[take_snoc hr.out];simp only[encV,List.map_append,List.map_cons,List.map_nil,encP,←dRows_app];rfl) se bl bl))
   all_goals first
    |(have:=hm0.out;omega)
    |(have h1:=hX.out;have h2:=hal.out;have h3:=hrb.out;clear hap1 hap2 hr1 hr2 hid hrp hrc hC hmy;grind)
  ·obtain rfl:k=v.ranges.length:=by omega
   rw[List.take_length]at hX ⊢
   replace hX:=Lib.hid hX
   replace hm0:=Lib.hid hm0
   refine wk1 ?_<;>intros
   refine loopG tab_ok mixed (fun m e h=>∃(k g2:Nat) (Y:Bool),k≤v.subs.length∧Y=(X&&(v.subs.take k).all (subB v))∧m=v.subs.length - k∧e=[(53,.d (.v (.int .i64 k))),(52,.d (.v (.int .i64 v.subs.length))),(51,.d (.sl 4 (v.subs.map encN))),(5,.d (.v (.bool Y))),(4,.own 2 g2),(3,.own 1 g),(2,.d (.v (.int .i64 0))),(1,.ptr 0 0)]∧
    h=[.box 55 ((encV v).map .d),.row 32 2 g (dRows ((v.ranges.map (·.at_)).map encP)),.row 32 2 g2 (dRows (((v.subs.take k).map (·.at_)).map encP))]) _ _ _ ⟨0,0,X,Nat.zero_le _,by simp,rfl,rfl,rfl⟩ ((weak_adopt (Nat.zero_le _) 4 32 2 rfl).trans (weak_forget _ (by simp) (by(try simp only[encV]);rfl) se bl bl)) ?_
   rintro m2 e h ⟨k,g2,Y,hk2,hY,hm2,rfl,rfl⟩ C hC
   by_cases hlt:k < v.subs.length
   ·have hkI:(k:Int) < (v.subs.length:Int):=by omega
    have hwr:=wi k (by omega)
    obtain⟨s,hs⟩:∃s,v.subs[k]? =some s:=⟨_,List.getElem?_eq_getElem hlt⟩
    have hsm:=List.mem_of_getElem? hs
    have hsi:=vids_p s.id
    have hsh:=vholds_p v s.at_ (by omega)
    have hsf:=faces_p s (h8.out s hsm).1 (h8.out s hsm).2
    have hlk:(List.take k v.subs).length=k:=by rw[List.length_take];omega
    have hbnd:(k+1)*16≤140737488355328:=by omega
    have hal:=all_snoc (p:=subB v) hs
    have hsb:subB v s=(idOK s.id&&(holdsV v s.at_&&facesB s)):=rfl
    generalize holdsV v s.at_=H at*
    generalize idOK s.id=I at*
    generalize facesB s=F at*
    replace hY:=Lib.hid hY
    replace hal:=Lib.hid hal
    replace hsb:=Lib.hid hsb
    replace hm2:=Lib.hid hm2
    replace hs:=Lib.hid hs
    have hs1':=hs.out
    refine wk4 ?_ ?_ ?_ ?_<;>intros
    all_goals(refine hC _ _ _ _ _ ?_ ⟨k+1,g2+1,_,hlt,?_,rfl,rfl,rfl⟩ (weak_forget _ (by simp) (by rw[take_snoc hs.out];simp only[encV,List.map_append,List.map_cons,List.map_nil,encP,←dRows_app];rfl) se bl bl))
    all_goals first
     |(have:=hm2.out;omega)
     |(have h1:=hY.out;have h2:=hal.out;have h3:=hsb.out;clear hap1 hap2 hr1 hr2 hid hsi hsh hsf hC hmy;grind)
   ·obtain rfl:k=v.subs.length:=by omega
    rw[List.take_length]at hY ⊢
    replace hY:=Lib.hid hY
    replace hm2:=Lib.hid hm2
    have ha1:apaF [] (v.ranges.map (·.at_))=apaF [] (v.ranges.map (·.at_)):=rfl
    generalize hA1:apaF [] (v.ranges.map (·.at_))=A1 at*
    generalize hA2:apaF [] (v.subs.map (·.at_))=A2 at*
    replace hA1:=Lib.hid hA1
    replace hA2:=Lib.hid hA2
    clear ha1
    refine wk1 ?_<;>intros
    all_goals
     have h1:=hX.out
     have h2:=hY.out
     clear hap1 hap2 hr1 hr2 hid hC hmy
     first
      |exact DLe.refl _
      |(rw[if_pos (by grind)];exact DLe.refl _)
      |(rw[if_neg (by grind)];exact DLe.refl _)
      |(exfalso;grind)
 |true=>
  rw[b1]at hid
  cases b2:risB (fun r:Rng=>r.at_.at_) v.ranges with
  |false=>
   rw[b1,b2,Bool.false_and,Bool.and_false]at hF0
   subst hF0
   rw[b2]at hr1
   refine pj Tryz.func97 Tryz.ntmps97 Tryz.results97 ?_
   have z1z:=hmy.out
   refine wk1 ?_<;>intros
   refine loopG tab_ok mixed (fun m e h=>∃(k g:Nat) (X:Bool),k≤v.ranges.length∧X=(false&&(v.ranges.take k).all rangeB)∧m=v.ranges.length - k∧e=[(28,.d (.v (.int .i64 k))),(27,.d (.v (.int .i64 v.ranges.length))),(26,.d (.sl 3 (v.ranges.map encG))),(5,.d (.v (.bool X))),(4,.d (.v (.slice none 0 0))),(3,.own 1 g),(2,.d (.v (.int .i64 0))),(1,.ptr 0 0)]∧
    h=[.box 55 ((encV v).map .d),.row 32 2 g (dRows (((v.ranges.take k).map (·.at_)).map encP))]) _ _ _ ⟨0,0,false,Nat.zero_le _,by simp,rfl,rfl,rfl⟩ ((weak_adopt (Nat.zero_le _) 3 32 2 rfl).trans (weak_forget _ (by simp) (by(try simp only[encV]);rfl) se bl bl)) ?_
   rintro m e h ⟨k,g,X,hk,hX,hm0,rfl,rfl⟩ C hC
   by_cases hlt:k < v.ranges.length
   ·have hkI:(k:Int) < (v.ranges.length:Int):=by omega
    have hwr:=wi k (by omega)
    obtain⟨r,hr⟩:∃r,v.ranges[k]? =some r:=⟨_,List.getElem?_eq_getElem hlt⟩
    have hrp:=vids_p r.pool
    have hrc:=check_p r.at_
    have hlk:(List.take k v.ranges).length=k:=by rw[List.length_take];omega
    have hbnd:(k+1)*16≤140737488355328:=by omega
    have hal:=all_snoc (p:=rangeB) hr
    have hrb:rangeB r=(idOK r.pool&&(chk r.at_.at_ r.at_.len==0)):=rfl
    generalize chk r.at_.at_ r.at_.len=K at*
    generalize idOK r.pool=I at*
    replace hX:=Lib.hid hX
    replace hal:=Lib.hid hal
    replace hrb:=Lib.hid hrb
    replace hm0:=Lib.hid hm0
    replace hr:=Lib.hid hr
    have hr1':=hr.out
    refine wk3 ?_ ?_ ?_<;>intros
    all_goals(refine hC _ _ _ _ _ ?_ ⟨k+1,g+1,_,hlt,?_,rfl,rfl,rfl⟩ (weak_forget _ (by simp) (by rw[take_snoc hr.out];simp only[encV,List.map_append,List.map_cons,List.map_nil,encP,←dRows_app];rfl) se bl bl))
    all_goals first
     |(have:=hm0.out;omega)
     |(have h1:=hX.out;have h2:=hal.out;have h3:=hrb.out;clear hap1 hap2 hr1 hr2 hid hrp hrc hC hmy;grind)
   ·obtain rfl:k=v.ranges.length:=by omega
    rw[List.take_length]at hX ⊢
    replace hX:=Lib.hid hX
    replace hm0:=Lib.hid hm0
    refine wk1 ?_<;>intros
    refine loopG tab_ok mixed (fun m e h=>∃(k g2:Nat) (Y:Bool),k≤v.subs.length∧Y=(X&&(v.subs.take k).all (subB v))∧m=v.subs.length - k∧e=[(53,.d (.v (.int .i64 k))),(52,.d (.v (.int .i64 v.subs.length))),(51,.d (.sl 4 (v.subs.map encN))),(5,.d (.v (.bool Y))),(4,.own 2 g2),(3,.own 1 g),(2,.d (.v (.int .i64 0))),(1,.ptr 0 0)]∧
     h=[.box 55 ((encV v).map .d),.row 32 2 g (dRows ((v.ranges.map (·.at_)).map encP)),.row 32 2 g2 (dRows (((v.subs.take k).map (·.at_)).map encP))]) _ _ _ ⟨0,0,X,Nat.zero_le _,by simp,rfl,rfl,rfl⟩ ((weak_adopt (Nat.zero_le _) 4 32 2 rfl).trans (weak_forget _ (by simp) (by(try simp only[encV]);rfl) se bl bl)) ?_
    rintro m2 e h ⟨k,g2,Y,hk2,hY,hm2,rfl,rfl⟩ C hC
    by_cases hlt:k < v.subs.length
    ·have hkI:(k:Int) < (v.subs.length:Int):=by omega
     have hwr:=wi k (by omega)
     obtain⟨s,hs⟩:∃s,v.subs[k]? =some s:=⟨_,List.getElem?_eq_getElem hlt⟩
     have hsm:=List.mem_of_getElem? hs
     have hsi:=vids_p s.id
     have hsh:=vholds_p v s.at_ (by omega)
     have hsf:=faces_p s (h8.out s hsm).1 (h8.out s hsm).2
     have hlk:(List.take k v.subs).length=k:=by rw[List.length_take];omega
     have hbnd:(k+1)*16≤140737488355328:=by omega
     have hal:=all_snoc (p:=subB v) hs
     have hsb:subB v s=(idOK s.id&&(holdsV v s.at_&&facesB s)):=rfl
     generalize holdsV v s.at_=H at*
     generalize idOK s.id=I at*
     generalize facesB s=F at*
     replace hY:=Lib.hid hY
     replace hal:=Lib.hid hal
     replace hsb:=Lib.hid hsb
     replace hm2:=Lib.hid hm2
     replace hs:=Lib.hid hs
     have hs1':=hs.out
     refine wk4 ?_ ?_ ?_ ?_<;>intros
     all_goals(refine hC _ _ _ _ _ ?_ ⟨k+1,g2+1,_,hlt,?_,rfl,rfl,rfl⟩ (weak_forget _ (by simp) (by rw[take_snoc hs.out];simp only[encV,List.map_append,List.map_cons,List.map_nil,encP,←dRows_app];rfl) se bl bl))
     all_goals first
      |(have:=hm2.out;omega)
      |(have h1:=hY.out;have h2:=hal.out;have h3:=hsb.out;clear hap1 hap2 hr1 hr2 hid hsi hsh hsf hC hmy;grind)
    ·obtain rfl:k=v.subs.length:=by omega
     rw[List.take_length]at hY ⊢
     replace hY:=Lib.hid hY
     replace hm2:=Lib.hid hm2
     have ha1:apaF [] (v.ranges.map (·.at_))=apaF [] (v.ranges.map (·.at_)):=rfl
     generalize hA1:apaF [] (v.ranges.map (·.at_))=A1 at*
     generalize hA2:apaF [] (v.subs.map (·.at_))=A2 at*
     replace hA1:=Lib.hid hA1
     replace hA2:=Lib.hid hA2
     clear ha1
     refine wk1 ?_<;>intros
     all_goals
      have h1:=hX.out
      have h2:=hY.out
      clear hap1 hap2 hr1 hr2 hid hC hmy
      first
       |exact DLe.refl _
       |(rw[if_pos (by grind)];exact DLe.refl _)
       |(rw[if_neg (by grind)];exact DLe.refl _)
       |(exfalso;grind)
  |true=>
   rw[b1,b2,Bool.true_and,Bool.true_and]at hF0
   subst hF0
   rw[b2]at hr1
   generalize risB (fun s:Sbn=>s.id) v.subs=F0 at*
   refine pj Tryz.func97 Tryz.ntmps97 Tryz.results97 ?_
   have z1z:=hmy.out
   refine wk1 ?_<;>intros
   refine loopG tab_ok mixed (fun m e h=>∃(k g:Nat) (X:Bool),k≤v.ranges.length∧X=(F0&&(v.ranges.take k).all rangeB)∧m=v.ranges.length - k∧e=[(28,.d (.v (.int .i64 k))),(27,.d (.v (.int .i64 v.ranges.length))),(26,.d (.sl 3 (v.ranges.map encG))),(5,.d (.v (.bool X))),(4,.d (.v (.slice none 0 0))),(3,.own 1 g),(2,.d (.v (.int .i64 0))),(1,.ptr 0 0)]∧
    h=[.box 55 ((encV v).map .d),.row 32 2 g (dRows (((v.ranges.take k).map (·.at_)).map encP))]) _ _ _ ⟨0,0,F0,Nat.zero_le _,by simp,rfl,rfl,rfl⟩ ((weak_adopt (Nat.zero_le _) 3 32 2 rfl).trans (weak_forget _ (by simp) (by(try simp only[encV]);rfl) se bl bl)) ?_
   rintro m e h ⟨k,g,X,hk,hX,hm0,rfl,rfl⟩ C hC
   by_cases hlt:k < v.ranges.length
   ·have hkI:(k:Int) < (v.ranges.length:Int):=by omega
    have hwr:=wi k (by omega)
    obtain⟨r,hr⟩:∃r,v.ranges[k]? =some r:=⟨_,List.getElem?_eq_getElem hlt⟩
    have hrp:=vids_p r.pool
    have hrc:=check_p r.at_
    have hlk:(List.take k v.ranges).length=k:=by rw[List.length_take];omega
    have hbnd:(k+1)*16≤140737488355328:=by omega
    have hal:=all_snoc (p:=rangeB) hr
    have hrb:rangeB r=(idOK r.pool&&(chk r.at_.at_ r.at_.len==0)):=rfl
    generalize chk r.at_.at_ r.at_.len=K at*
    generalize idOK r.pool=I at*
    replace hX:=Lib.hid hX
    replace hal:=Lib.hid hal
    replace hrb:=Lib.hid hrb
    replace hm0:=Lib.hid hm0
    replace hr:=Lib.hid hr
    have hr1':=hr.out
    refine wk3 ?_ ?_ ?_<;>intros
    all_goals(refine hC _ _ _ _ _ ?_ ⟨k+1,g+1,_,hlt,?_,rfl,rfl,rfl⟩ (weak_forget _ (by simp) (by rw[take_snoc hr.out];simp only[encV,List.map_append,List.map_cons,List.map_nil,encP,←dRows_app];rfl) se bl bl))
    all_goals first
     |(have:=hm0.out;omega)
     |(have h1:=hX.out;have h2:=hal.out;have h3:=hrb.out;clear hap1 hap2 hr1 hr2 hid hrp hrc hC hmy;grind)
   ·obtain rfl:k=v.ranges.length:=by omega
    rw[List.take_length]at hX ⊢
    replace hX:=Lib.hid hX
    replace hm0:=Lib.hid hm0
    refine wk1 ?_<;>intros
    refine loopG tab_ok mixed (fun m e h=>∃(k g2:Nat) (Y:Bool),k≤v.subs.length∧Y=(X&&(v.subs.take k).all (subB v))∧m=v.subs.length - k∧e=[(53,.d (.v (.int .i64 k))),(52,.d (.v (.int .i64 v.subs.length))),(51,.d (.sl 4 (v.subs.map encN))),(5,.d (.v (.bool Y))),(4,.own 2 g2),(3,.own 1 g),(2,.d (.v (.int .i64 0))),(1,.ptr 0 0)]∧
     h=[.box 55 ((encV v).map .d),.row 32 2 g (dRows ((v.ranges.map (·.at_)).map encP)),.row 32 2 g2 (dRows (((v.subs.take k).map (·.at_)).map encP))]) _ _ _ ⟨0,0,X,Nat.zero_le _,by simp,rfl,rfl,rfl⟩ ((weak_adopt (Nat.zero_le _) 4 32 2 rfl).trans (weak_forget _ (by simp) (by(try simp only[encV]);rfl) se bl bl)) ?_
    rintro m2 e h ⟨k,g2,Y,hk2,hY,hm2,rfl,rfl⟩ C hC
    by_cases hlt:k < v.subs.length
    ·have hkI:(k:Int) < (v.subs.length:Int):=by omega
     have hwr:=wi k (by omega)
     obtain⟨s,hs⟩:∃s,v.subs[k]? =some s:=⟨_,List.getElem?_eq_getElem hlt⟩
     have hsm:=List.mem_of_getElem? hs
     have hsi:=vids_p s.id
     have hsh:=vholds_p v s.at_ (by omega)
     have hsf:=faces_p s (h8.out s hsm).1 (h8.out s hsm).2
     have hlk:(List.take k v.subs).length=k:=by rw[List.length_take];omega
     have hbnd:(k+1)*16≤140737488355328:=by omega
     have hal:=all_snoc (p:=subB v) hs
     have hsb:subB v s=(idOK s.id&&(holdsV v s.at_&&facesB s)):=rfl
     generalize holdsV v s.at_=H at*
     generalize idOK s.id=I at*
     generalize facesB s=F at*
     replace hY:=Lib.hid hY
     replace hal:=Lib.hid hal
     replace hsb:=Lib.hid hsb
     replace hm2:=Lib.hid hm2
     replace hs:=Lib.hid hs
     have hs1':=hs.out
     refine wk4 ?_ ?_ ?_ ?_<;>intros
     all_goals(refine hC _ _ _ _ _ ?_ ⟨k+1,g2+1,_,hlt,?_,rfl,rfl,rfl⟩ (weak_forget _ (by simp) (by rw[take_snoc hs.out];simp only[encV,List.map_append,List.map_cons,List.map_nil,encP,←dRows_app];rfl) se bl bl))
     all_goals first
      |(have:=hm2.out;omega)
      |(have h1:=hY.out;have h2:=hal.out;have h3:=hsb.out;clear hap1 hap2 hr1 hr2 hid hsi hsh hsf hC hmy;grind)
    ·obtain rfl:k=v.subs.length:=by omega
     rw[List.take_length]at hY ⊢
     replace hY:=Lib.hid hY
     replace hm2:=Lib.hid hm2
     have ha1:apaF [] (v.ranges.map (·.at_))=apaF [] (v.ranges.map (·.at_)):=rfl
     generalize hA1:apaF [] (v.ranges.map (·.at_))=A1 at*
     generalize hA2:apaF [] (v.subs.map (·.at_))=A2 at*
     replace hA1:=Lib.hid hA1
     replace hA2:=Lib.hid hA2
     clear ha1
     refine wk2 ?_ ?_<;>intros
     all_goals
      have h1:=hX.out
      have h2:=hY.out
      clear hap1 hap2 hr1 hr2 hid hC hmy
      first
       |exact DLe.refl _
       |(rw[if_pos (by grind)];exact DLe.refl _)
       |(rw[if_neg (by grind)];exact DLe.refl _)
       |(exfalso;grind)
def subRow (s:Sbn)(v:PV):List PV:=[.d (.v (.int .i64 s.id)),.d (.v (.int .i64 s.at_.at_)),.d (.v (.int .i64 s.at_.len)),v]
def faceRow (f:Fce)(v:PV):List PV:=[.d (.v (.int .i64 f.id)),v]
def zipG {α:Type}(enc:α→List D)(pre:List α)(r:List PV)(post:List α):List (List PV):=dRows (pre.map enc)++r::dRows (post.map enc)
section
variable {α:Type}{enc:α→List D}
@[go_sem] theorem zipG_len (pre:List α)(r:List PV)(post:List α):(zipG enc pre r post).length=pre.length+1+post.length:=by
 simp[zipG,dRows_len];omega
theorem belowR_app (n:Nat):∀(l m:List (List PV)),belowR n (l++m)=(belowR n l&&belowR n m)
 |[],m=>rfl
 |r::l,m=>by simp only[List.cons_append,belowR,belowR_app n l m,Bool.and_assoc]
theorem belowR_zipG (n:Nat)(pre:List α)(r:List PV)(post:List α):belowR n (zipG enc pre r post)=belowL n r:=by
 simp only[zipG,belowR_app,belowR,belowR_d,Bool.true_and,Bool.and_true]
theorem bz2 {A:Prop}(h:A:=by first|rfl|simp only[belowH,belowE,belowC,belowL,belowR,belowP,belowL_d,belowR_d,belowR_zipG,subRow,faceRow,List.length_cons,List.length_nil,Nat.reduceAdd,Nat.reduceLT,decide_true,Bool.and_self,Bool.and_true]):A:=h
theorem fzR_zipG (k g:Nat)(d:D)(pre:List α)(r:List PV)(post:List α):fzR k g d (zipG enc pre r post)=zipG enc pre (fzL k g d r) post:=by
 simp only[zipG,fzR_app,fzR,fzR_d]
theorem zipG_snoc (pre:List α)(r:List PV)(post:List α)(q:α):zipG enc pre r post++[(enc q).map .d]=zipG enc pre r (post++[q]):=by
 simp[zipG,dRows]
@[go_sem] theorem renR_zipG (ρ:Nat→Nat)(pre:List α)(r:List PV)(post:List α):renR ρ (zipG enc pre r post)=zipG enc pre (renL ρ r) post:=by
 have app:∀(l m:List (List PV)),renR ρ (l++m)=renR ρ l++renR ρ m:=by
  intro l m
  rw[renR_map,renR_map,renR_map,List.map_append]
 simp only[zipG,app,renR,renR_d]
theorem viewR_app (f:PV→Option D):∀(l m:List (List PV)),viewR f (l++m)=match viewR f l,viewR f m with|some a,some b=>some (a++b)|_,_=>none
 |[],m=>by simp only[List.nil_append,viewR];cases viewR f m<;>rfl
 |r::l,m=>by
  simp only[List.cons_append,viewR,viewR_app f l m]
  cases viewL f r<;>cases viewR f l<;>cases viewR f m<;>rfl
@[go_sem] theorem viewR_zipG (h:Nat→Chunk)(n:Nat)(pre:List α)(r:List PV)(post:List α):viewR (viewF h n) (zipG enc pre r post)=match viewL (viewF h n) r with|some d=>some (pre.map enc++d::post.map enc)|none=>none:=by
 simp only[zipG,viewR_app,viewR,viewR_d]
 cases viewL (viewF h n) r<;>rfl
@[go_sem] theorem zipG_get (pre:List α)(r:List PV)(post:List α):(zipG enc pre r post)[pre.length]? =some r:=by
 unfold zipG
 rw[List.getElem?_append_right (by simp[dRows_len])]
 simp[dRows_len]
@[go_sem] theorem zipG_set (pre:List α)(r r':List PV)(post:List α):(zipG enc pre r post).set pre.length r'=zipG enc pre r' post:=by
 unfold zipG
 rw[List.set_append_right _ _ (by simp[dRows_len])]
 simp[dRows_len]
end
def insK {α:Type}(key:α→Int)(x:α)(l:List α):List α:=l.take (lbN key (key x) l)++x::l.drop (lbN key (key x) l)
theorem lbN_le {α:Type}(key:α→Int)(t:Int)(l:List α):lbN key t l≤l.length:=List.findIdx_le_length
theorem insK_perm {α:Type}(key:α→Int)(x:α)(l:List α):(insK key x l).Perm (l++[x]):=by
 unfold insK
 have h:l++[x]=(l.take (lbN key (key x) l)++l.drop (lbN key (key x) l))++[x]:=by rw[List.take_append_drop]
 rw[h,List.append_assoc]
 refine List.Perm.append_left _ ?_
 exact(List.perm_append_singleton _ _).symm
theorem insK_mem {α:Type}{key:α→Int}{x y:α}{l:List α}:y∈insK key x l↔y=x∨y∈l:=by
 rw[(insK_perm key x l).mem_iff];simp[or_comm]
theorem insK_len {α:Type}(key:α→Int)(x:α)(l:List α):(insK key x l).length=l.length+1:=by
 rw[(insK_perm key x l).length_eq];simp
theorem insK_sorted {α:Type}{key:α→Int}{x:α}{l:List α}(hs:l.Pairwise fun a b=>key a < key b)(hn:∀y∈l,key y≠key x):(insK key x l).Pairwise fun a b=>key a < key b:=by
 have hlow:∀y∈l.take (lbN key (key x) l),key y < key x:=by
  intro y hy
  obtain⟨i,hi,rfl⟩:=List.mem_iff_getElem.1 hy
  rw[List.getElem_take]
  have:=List.not_of_lt_findIdx (show i < lbN key (key x) l by rw[List.length_take]at hi;omega)
  simp at this
  exact this
 have hhigh:∀y∈l.drop (lbN key (key x) l),key x < key y:=by
  intro y hy
  have hym:=List.mem_of_mem_drop hy
  obtain⟨i,hi,rfl⟩:=List.mem_iff_getElem.1 hy
  rw[List.getElem_drop]at hym ⊢
  rw[List.length_drop]at hi
  have hlt:lbN key (key x) l < l.length:=by omega
  have h0:=List.findIdx_getElem (xs:=l) (p:=fun y=>decide (key x≤key y)) (w:=hlt)
  simp only[decide_eq_true_eq]at h0
  change key x≤key (l[lbN key (key x) l]'hlt)at h0
  have hne:=hn _ hym
  rcases Nat.eq_zero_or_pos i with h|h
  ·subst h;simp only[Nat.add_zero]at hne ⊢;omega
  ·have:=List.pairwise_iff_getElem.1 hs _ (lbN key (key x) l+i) hlt (by omega) (by omega)
   omega
 unfold insK
 rw[List.pairwise_append,List.pairwise_cons]
 refine⟨hs.sublist (List.take_sublist _ _),⟨hhigh,hs.sublist (List.drop_sublist _ _)⟩,fun a ha b hb=>?_⟩
 rcases List.mem_cons.1 hb with rfl|hb
 ·exact hlow a ha
 ·have:=hlow a ha;have:=hhigh b hb;omega
def Vpc.zero:Vpc:=⟨0,[],[]⟩
theorem Vpc.zero_le:DLe (.agg [.v (.int .i64 0),.v (.slice none 0 0),.v (.slice none 0 0)]) (.agg (encV Vpc.zero)):=by repeat(first|exact DLe.refl _|exact DLe.nil _|(refine DLe.tup ?_)|(refine DLe.agg ?_ rfl)|exact trivial|(refine And.intro ?_ ?_))
structure VpcOK (v:Vpc):Prop where
 n4:v.ranges.length≤4
 n6:v.subs.length≤6
 n8:∀s∈v.subs,s.faces.length≤8∧∀f∈s.faces,f.addrs.length≤4
 id:idOK v.id=true
 rr:v.ranges.Pairwise fun a b=>a.at_.at_ < b.at_.at_
 rs:v.subs.Pairwise fun a b=>a.id < b.id
 ranges:∀r∈v.ranges,rangeB r=true
 subs:∀s∈v.subs,subB v s=true
 ar:apaF [] (v.ranges.map (·.at_))=true
 as_:apaF [] (v.subs.map (·.at_))=true
theorem vpcOK {v:Vpc}:chkV v=0↔manyV v=false∧fineV v=true∧apaF [] (v.ranges.map (·.at_))=true∧apaF [] (v.subs.map (·.at_))=true:=by
 unfold chkV
 generalize apaF [] (v.ranges.map (·.at_))=A
 generalize apaF [] (v.subs.map (·.at_))=B
 cases manyV v<;>cases fineV v<;>cases A<;>cases B<;>simp
theorem vpcOK_of {v:Vpc}(h:chkV v=0):VpcOK v:=by
 obtain⟨h1,h2,h3,h4⟩:=vpcOK.1 h
 obtain⟨a,b,c⟩:=manyV_ok h1
 unfold fineV at h2
 simp only[Bool.and_eq_true,List.all_eq_true,risB_pair]at h2
 exact⟨a,b,c,h2.1.1,h2.1.2.1,h2.1.2.2,h2.2.1,h2.2.2,h3,h4⟩
theorem rangeB_right {r:Rng}(h:rangeB r=true):r.at_.right=true:=by
 unfold rangeB at h
 simp only[Bool.and_eq_true,beq_iff_eq]at h
 simp[Pfx.right,rightB,h.2]
theorem meets_at {p q:Pfx}(hp:p.right=true)(hq:q.right=true)(h:p.meets q=false):p.at_≠q.at_:=fun e=>by
 have b1:=p.hi_bd hp
 have b2:=q.hi_bd hq
 rw[meets_iff.2 ⟨hp,hq,by omega,by omega⟩]at h
 cases h
def growE (v:Vpc)(r:Rng):Int:=
 if chk r.at_.at_ r.at_.len≠0∨idOK r.pool=false then 1 else
 if (v.ranges.any fun q=>q.at_.meets r.at_)=true then 6 else if v.ranges.length=4 then 2 else 0
def growV (v:Vpc)(r:Rng):Vpc × Int:=
 if chkV v≠0 then (Vpc.zero,chkV v)else if growE v r≠0 then (Vpc.zero,growE v r)else ({v with ranges:=insK (·.at_.at_) r v.ranges},0)
theorem apaF_iff:∀(pre l:List Pfx),apaF pre l=true↔l.Pairwise (fun a b=>b.meets a=false)∧∀a∈pre,∀b∈l,b.meets a=false
 |pre,[]=>by simp[apaF]
 |pre,p::l=>by
  simp only[apaF,Bool.and_eq_true,Bool.not_eq_true',List.any_eq_false,Bool.not_eq_true,apaF_iff (pre++[p]) l,List.pairwise_cons,List.mem_append,List.mem_cons,List.not_mem_nil,or_false]
  constructor
  ·rintro⟨h1,h2,h3⟩
   refine⟨⟨fun b hb=>h3 p (.inr rfl) b hb,h2⟩,fun a ha b hb=>?_⟩
   rcases hb with rfl|hb
   ·exact h1 a ha
   ·exact h3 a (.inl ha) b hb
  ·rintro⟨⟨h1,h2⟩,h3⟩
   refine⟨fun x hx=>h3 x hx p (.inl rfl),h2,fun a ha b hb=>?_⟩
   rcases ha with ha|rfl
   ·exact h3 a ha b (.inr hb)
   ·exact h1 b hb
theorem apaF_nil {l:List Pfx}:apaF [] l=true↔l.Pairwise (fun a b=>b.meets a=false):=by
 rw[apaF_iff];simp
def HeadIs (ents:List (List Int × Int)):Nat→Int→Int→Prop
 |0,x,r=>lkE ents [x]=some x∧r=x
 |n+1,x,r=>∃y,lkE ents [x]=some y∧y≠x∧HeadIs ents n y r
theorem head_m (ents:List (List Int × Int))(n:Nat)(x r:Int)(h:HeadIs ents n x r):
 MSpec Tryz.prog 47 [.mref 0,.d (.v (.int .i64 x))] [.mp 1 false ents] (.d (.v (.int .i64 r))) [.mp 1 false ents]:=by
 refine mj Tryz.func47 Tryz.ntmps47 Tryz.results47 ?_
 refine wk1 ?_<;>intros
 refine loopG tab_ok mixed (fun m e h=>∃(y:Int),HeadIs ents m y r∧e=[(4,.d (.v (.int .i64 0))),(1,.d (.v (.int .i64 y))),(0,.mref 0)]∧h=[.mp 1 false ents]) _ _ _ ⟨x,h,rfl,rfl⟩ (weak_forget _ (by simp) (by(try simp only[encK]);rfl) se bl bl) ?_
 rintro m e h ⟨y,hy,rfl,rfl⟩ C hC
 cases m with
 |zero=>
  obtain⟨h1,rfl⟩:=hy
  refine wk1 ?_<;>intros
  all_goals exact weak_eq rfl rfl
 |succ m=>
  obtain⟨z,h1,h2,h3⟩:=hy
  have hne:(z !=y)=true:=by simpa using h2
  replace h3:=Lib.hid h3
  replace h2:=Lib.hid h2
  refine wk1 ?_<;>intros
  exact hC _ _ _ _ _ (Nat.lt_succ_self _) ⟨z,h3.out,rfl,rfl⟩ (weak_forget _ (by simp) (by(try simp only[encK]);rfl) se bl bl)
def clashV (v w:Vpc):Bool:=v.ranges.any fun r=>w.ranges.any fun q=>r.at_.meets q.at_
theorem clash11_p (q r:Rng):PSpec Tryz.prog 238 [.agg (encG q),.ept (encG r)] (.v (.bool (r.at_.meets q.at_))):=by
 have hm:PSpec Tryz.prog 19 [.agg (encP r.at_),.agg (encP q.at_)] (.v (.bool (r.at_.meets q.at_))):=meets_p _ _
 refine pj Tryz.func238 Tryz.ntmps238 Tryz.results238 ?_
 exact wk0
theorem clash1_p (r:Rng)(w:Vpc)(hw:w.ranges.length≤1000000000):PSpec Tryz.prog 237 [.agg (encG r),.ept (encV w)] (.v (.bool (w.ranges.any fun q=>r.at_.meets q.at_))):=by
 have hc:=cntf_Range encG_len (fun q=>r.at_.meets q.at_) w.ranges 238 [.ept (encG r)] hw (fun q _=>clash11_p q r)
 refine pj Tryz.func237 Tryz.ntmps237 Tryz.results237 ?_
 exact wk0
theorem clash_p (v w:Vpc)(hv:v.ranges.length≤1000000000)(hw:w.ranges.length≤1000000000):PSpec Tryz.prog 188 [.agg (encV v),.agg (encV w)] (.v (.bool (clashV v w))):=by
 have hc:=cntf_Range encG_len (fun r=>w.ranges.any fun q=>r.at_.meets q.at_) v.ranges 237 [.ept (encV w)] hv (fun r _=>clash1_p r w hw)
 refine pj Tryz.func188 Tryz.ntmps188 Tryz.results188 ?_
 exact wk0
def orI:List Int→Int
 |[]=>0
 |x::l=>if x=0 then orI l else x
theorem orI_drop {l:List Int}{k:Nat}{x:Int}(h:l[k]? =some x):orI (l.drop k)=if x=0 then orI (l.drop (k+1))else x:=by rw[drop_get h,orI]
theorem or_p (l:List Int)(hl:l.length≤1000000000):PSpec Tryz.prog 187 [.sl 1 (l.map encA)] (.v (.int .i64 (orI l))):=by
 obtain⟨R,hR⟩:∃R,R=orI l:=⟨_,rfl⟩
 rw[←hR]
 replace hR:=Lib.hid hR
 refine pj Tryz.func187 Tryz.ntmps187 Tryz.results187 ?_
 refine wk1 ?_<;>intros
 refine loopL tab_ok mixed l (fun k=>orI l=orI (l.drop k)) (fun k=>[(8,.d (.v (.int .i64 k))),(7,.d (.v (.int .i64 l.length))),(6,.d (.sl 1 (l.map encA))),(3,.d (.v (.int .i64 0))),(2,.d (.v (.int .i64 0)))]) (fun _=>[]) rfl (weak_forget _ (by simp) (by(try simp only[encA]);rfl) se bl bl) ?_ ?_
 ·intro k x hx hk hI C hC
  have hkI:(k:Int) < (l.length:Int):=by omega
  have hwr:=wi k (by omega)
  rw[orI_drop hx]at hI
  by_cases h0:x=0
  ·rw[if_pos h0]at hI
   have hne:(x !=0)=false:=by simp[h0]
   replace hI:=Lib.hid hI
   replace h0:=Lib.hid h0
   refine wk1 ?_<;>intros
   exact hC _ _ hI.out (weak_forget _ (by simp) (by(try simp only[encA]);rfl) se bl bl)
  ·rw[if_neg h0]at hI
   have hne:(x !=0)=true:=by simpa using h0
   have hr:R=x:=by rw[hR.out,hI]
   rw[hr]
   replace hr:=Lib.hid hr
   replace hI:=Lib.hid hI
   replace h0:=Lib.hid h0
   exact wk0
   all_goals exact DLe.refl _
 ·intro hI C
  rw[List.drop_length]at hI
  have hr:R=0:=by rw[hR.out,hI];rfl
  rw[hr]
  replace hr:=Lib.hid hr
  replace hI:=Lib.hid hI
  exact wk0
  all_goals exact DLe.refl _
def ordK (l m:Lnk):Int:=orI [cmpI l.a m.a,cmpI l.b m.b]
theorem order_p (l m:Lnk):PSpec Tryz.prog 98 [.agg (encK l),.agg (encK m)] (.v (.int .i64 (ordK l m))):=by
 have h1:=compare_p l.a m.a
 have h2:=compare_p l.b m.b
 have h3:=or_p [cmpI l.a m.a,cmpI l.b m.b] (by simp)
 simp only[List.map_cons,List.map_nil,encA]at h3
 unfold ordK
 generalize cmpI l.a m.a=A at*
 generalize cmpI l.b m.b=B at*
 refine pj Tryz.func98 Tryz.ntmps98 Tryz.results98 ?_
 exact wk0
def lnk (a b:Int):Lnk:=⟨if b < a then b else a,if a < b then b else a⟩
theorem find1_p (v:Vpc)(id:Int):PSpec Tryz.prog 112 [.agg (encV v),.v (.int .i64 id)] (.v (.int .i64 (cmpI v.id id))):=by
 have h1:=compare_p v.id id
 refine pj Tryz.func112 Tryz.ntmps112 Tryz.results112 ?_
 exact wk0
theorem bsrf_Vpc {α:Type}{enc:α→List D}(henc:∀x,(enc x).length=3)(key:α→Int)(l:List α)(t:Int)(g:Nat)(caps:List D)(hl:l.length≤1000000000)(hs:l.Pairwise fun a b=>key a < key b)(hc:∀x∈l,PSpec Tryz.prog g (.agg (enc x):: .v (.int .i64 t)::caps) (.v (.int .i64 (cmpI (key x) t)))):
 PSpec Tryz.prog 111 [.sl 3 (l.map enc),.v (.int .i64 t),.clo g caps] (.tup [.v (.int .i64 (lbN key t l)),.v (.bool (lbB key t l))]):=by
 refine pj Tryz.func111 Tryz.ntmps111 Tryz.results111 ?_
 refine wk1 ?_<;>intros
 refine loopG tab_ok mixed (fun m e h=>∃i j:Nat,i≤j∧j≤l.length∧(∀q (hq:q < l.length),q < i→key l[q] < t)∧(∀q (hq:q < l.length),j≤q→t≤key l[q])∧m=j - i∧
  e=[(10,.d (.v (.int .i64 j))),(9,.d (.v (.int .i64 i))),(8,.d (.v (.int .i64 l.length))),(7,.d (.v (.bool false))),(6,.d (.v (.int .i64 0))),(2,.d (.clo g caps)),(1,.d (.v (.int .i64 t))),(0,.d (.sl 3 (l.map enc)))]∧h=[]) _ _ _ ⟨0,l.length,Nat.zero_le _,Nat.le_refl _,fun q hq h=>absurd h (Nat.not_lt_zero _),fun q hq h=>by omega,rfl,rfl,rfl⟩ ?_ ?_
 ·exact weak_forget [] (by simp) rfl ⟨rfl,rfl,rfl,rfl,rfl,rfl,rfl,rfl,trivial⟩ bl bl
 ·rintro m e h ⟨i,j,hij,hj,hlo,hhi,rfl,rfl,rfl⟩ CL hCL
  by_cases hlt:i < j
  ·obtain⟨q,hq⟩:∃q,q=(i+j) / 2:=⟨_,rfl⟩
   have hql:q < l.length:=by omega
   obtain⟨x,hx⟩:∃x,l[q]? =some x:=⟨_,List.getElem?_eq_getElem hql⟩
   have hxe:l[q]=x:=by rw[List.getElem?_eq_getElem hql]at hx;exact Option.some.inj hx
   have hltI:(i:Int) < (j:Int):=by omega
   have hw1:IntKind.i64.wrap ((i:Int)+(j:Int))=((i+j:Nat):Int):=by rw[IntKind.wrap_i64];omega
   have hw2:IntKind.u64.wrap ((i+j:Nat):Int)=((i+j:Nat):Int):=by rw[wrap_u64];omega
   have hsh:(((i+j:Nat):Int)).fdiv (2 ^ min 1 64)=(q:Int):=by
    rw[hq,show (min 1 64:Nat)=1 from rfl,Int.pow_succ,Int.pow_zero,Int.one_mul,Int.fdiv_eq_ediv_of_nonneg _ (by omega)]
    omega
   have hw3:IntKind.i64.wrap (q:Int)=(q:Int):=by rw[IntKind.wrap_i64];omega
   have hw4:=wi q (by omega)
   have hlen:=henc x
   have htk:(enc x).take 3=enc x:=List.take_of_length_le (by omega)
   have hcx:=hc x (List.mem_of_getElem? hx)
   have hcm:=cmpI_neg (key x) t
   have hqd:i≤q∧q < j:=by omega
   replace hq:=Lib.hid hq
   by_cases hk:key x < t
   ·have hkI:decide (key x < t)=true:=by simpa using hk
    refine wk1 ?_<;>intros
    refine hCL _ _ _ _ _ ?_ ⟨q+1,j,by omega,hj,?_,hhi,rfl,rfl,rfl⟩ (weak_forget [] (by simp) rfl ⟨rfl,rfl,rfl,rfl,rfl,rfl,rfl,rfl,trivial⟩ bl bl)
    ·omega
    ·intro q' hq' hlt'
     rcases Nat.lt_or_ge q' q with h1|h1
     ·have:=List.pairwise_iff_getElem.1 hs q' q hq' hql h1
      rw[hxe]at this;omega
     ·obtain rfl:q'=q:=by omega
      rw[hxe];exact hk
   ·have hkI:decide (key x < t)=false:=by simpa using hk
    refine wk1 ?_<;>intros
    refine hCL _ _ _ _ _ ?_ ⟨i,q,by omega,by omega,hlo,?_,rfl,rfl,rfl⟩ (weak_forget [] (by simp) rfl ⟨rfl,rfl,rfl,rfl,rfl,rfl,rfl,rfl,trivial⟩ bl bl)
    ·omega
    ·intro q' hq' hlt'
     rcases Nat.lt_or_ge q q' with h1|h1
     ·have:=List.pairwise_iff_getElem.1 hs q q' hql hq' h1
      rw[hxe]at this;omega
     ·obtain rfl:q'=q:=by omega
      rw[hxe];omega
  ·obtain rfl:i=j:=by omega
   have hlb:=lbN_eq hj hlo hhi
   have hlbB:lbB key t l=match l[i]? with|some x=>key x==t|none=>false:=by unfold lbB;rw[hlb];all_goals(cases l[i]? <;>rfl)
   replace hlb:=Lib.hid hlb
   replace hlbB:=Lib.hid hlbB
   by_cases hin:i < l.length
   ·obtain⟨x,hx⟩:∃x,l[i]? =some x:=⟨_,List.getElem?_eq_getElem hin⟩
    have hinI:decide ((i:Int) < (l.length:Int))=true:=by simpa using hin
    have hlen:=henc x
    have htk:(enc x).take 3=enc x:=List.take_of_length_le (by omega)
    have hcx:=hc x (List.mem_of_getElem? hx)
    have hcz:=cmpI_zero (key x) t
    refine wk1 ?_<;>intros
    all_goals rw[hlbB.out,hx,hlb.out]
    all_goals exact DLe.refl _
   ·have hinI:decide ((i:Int) < (l.length:Int))=false:=by simpa using hin
    refine wk1 ?_<;>intros
    all_goals rw[hlbB.out,hlb.out,List.getElem?_eq_none (by omega)]
    all_goals exact DLe.refl _
def findN (n:Net)(id:Int):Option Vpc:=n.vpcs.find? fun v=>v.id==id
@[go_sem] def findND (o:Option Vpc):D:=match o with|some v=> .tup [.ept (encV v),.v (.bool true)]|none=> .tup [.v (.pointer none),.v (.bool false)]
theorem lb_hit {l:List Vpc}{id:Int}(hs:l.Pairwise fun a b=>a.id < b.id){v:Vpc}(hv:l[lbN (fun v:Vpc=>v.id) id l]? =some v)(he:v.id=id):l.find? (fun v=>v.id==id)=some v:=by
 rw[List.find?_eq_some_iff_getElem]
 obtain⟨hlt,hg⟩:=List.getElem?_eq_some_iff.1 hv
 refine⟨by simpa using he,_,hlt,hg,fun j hj=>?_⟩
 have:=List.pairwise_iff_getElem.1 hs j _ (by omega) hlt hj
 rw[hg]at this
 simp
 omega
theorem lb_miss {l:List Vpc}{id:Int}(hs:l.Pairwise fun a b=>a.id < b.id)(h:lbB (fun v:Vpc=>v.id) id l=false):l.find? (fun v=>v.id==id)=none:=by
 rw[List.find?_eq_none]
 intro v hv he
 have he2:v.id=id:=by simpa using he
 obtain⟨j,hj,rfl⟩:=List.mem_iff_getElem.1 hv
 have h1:lbN (fun v:Vpc=>v.id) id l=j:=lbN_eq (by omega) (fun q hq hqj=>by
  have:=List.pairwise_iff_getElem.1 hs q j hq hj hqj
  show l[q].id < id
  omega) (fun q hq hjq=>by
  show id≤l[q].id
  rcases Nat.lt_or_ge j q with h|h
  ·have:=List.pairwise_iff_getElem.1 hs j q hj hq h;omega
  ·obtain rfl:q=j:=by omega
   omega)
 unfold lbB at h
 rw[h1,List.getElem?_eq_getElem hj]at h
 simp[he2]at h
@[go_sem] def findNP (o:Option Vpc):PV:= .d (findND o)
theorem nfindB_m (n:Net)(id:Int)(hl:n.vpcs.length≤1000000000)(hs:n.vpcs.Pairwise fun a b=>a.id < b.id):MSpec Tryz.prog 45 [.ptr 0 0,.d (.v (.int .i64 id))] [.box 28 ((encT n).map .d)] (findNP (findN n id)) [.box 28 ((encT n).map .d)]:=by
 have hb:=bsrf_Vpc encV_len (fun v:Vpc=>v.id) n.vpcs id 112 [] hl hs (fun v _=>find1_p v id)
 unfold findN
 cases hB:lbB (fun v:Vpc=>v.id) id n.vpcs with
 |false=>
  rw[lb_miss hs hB]
  rw[hB]at hb
  clear hs
  refine mj Tryz.func45 Tryz.ntmps45 Tryz.results45 ?_
  refine wk1 ?_<;>intros
  all_goals exact weak_eq rfl rfl
 |true=>
  obtain⟨v,hv,he⟩:∃v,n.vpcs[lbN (fun v:Vpc=>v.id) id n.vpcs]? =some v∧v.id=id:=by
   unfold lbB at hB
   cases hq:n.vpcs[lbN (fun v:Vpc=>v.id) id n.vpcs]? with
   |none=>rw[hq]at hB;cases hB
   |some v=>rw[hq]at hB;exact⟨v,rfl,by simpa using hB⟩
  rw[lb_hit hs hv he]
  rw[hB]at hb
  clear hs
  replace he:=Lib.hid he
  have hlt:=(List.getElem?_eq_some_iff.1 hv).1
  generalize lbN (fun v:Vpc=>v.id) id n.vpcs=k at*
  refine mj Tryz.func45 Tryz.ntmps45 Tryz.results45 ?_
  refine wk1 ?_<;>intros
  all_goals exact weak_eq rfl rfl
theorem head_up {ents:List (List Int × Int)}{a b r:Int}(hb:lkE ents [b]=some b)(hr:r≠b):∀{n:Nat}{x:Int},HeadIs ents n x r→HeadIs (upE ents [b] a) n x r
 |0,x,h=>by
  obtain⟨h1,rfl⟩:=h
  exact⟨by rw[lkE_up,if_neg (by simpa using fun e=>hr e.symm)];exact h1,rfl⟩
 |n+1,x,h=>by
  obtain⟨y,h1,h2,h3⟩:=h
  have hx:b≠x:=fun e=>by subst e;rw[hb]at h1;exact h2 (Option.some.inj h1).symm
  exact⟨y,by rw[lkE_up,if_neg (by simpa using hx)];exact h1,h2,head_up hb hr h3⟩
theorem head_up2 {ents:List (List Int × Int)}{a b:Int}(ha:lkE ents [a]=some a)(hb:lkE ents [b]=some b)(hab:a≠b):∀{n:Nat}{x:Int},HeadIs ents n x b→HeadIs (upE ents [b] a) (n+1) x a
 |0,x,h=>by
  obtain⟨h1,rfl⟩:=h
  exact⟨a,by rw[lkE_up,if_pos rfl],hab,by rw[lkE_up,if_neg (by simpa using fun e=>hab e.symm)];exact ha,rfl⟩
 |n+1,x,h=>by
  obtain⟨y,h1,h2,h3⟩:=h
  have hx:b≠x:=fun e=>by subst e;rw[hb]at h1;exact h2 (Option.some.inj h1).symm
  exact⟨y,by rw[lkE_up,if_neg (by simpa using hx)];exact h1,h2,head_up2 ha hb hab h3⟩
theorem head_same {ents:List (List Int × Int)}{b r:Int}(hb:lkE ents [b]=some b):∀{n:Nat}{x:Int},HeadIs ents n x r→HeadIs (upE ents [b] b) n x r
 |0,x,h=>by
  obtain⟨h1,rfl⟩:=h
  refine⟨?_,rfl⟩
  rw[lkE_up]
  split
  ·rename_i e;simp at e;rw[e]
  ·exact h1
 |n+1,x,h=>by
  obtain⟨y,h1,h2,h3⟩:=h
  refine⟨y,?_,h2,head_same hb h3⟩
  rw[lkE_up,if_neg]
  ·exact h1
  ·intro e;simp at e;subst e;rw[hb]at h1;exact h2 (Option.some.inj h1).symm
def GrpOK (ids:List Int)(ents:List (List Int × Int))(F:Int→Int):Prop:=∀x∈ids,(∃n,HeadIs ents n x (F x))∧F x∈ids∧lkE ents [F x]=some (F x)
def stepF (F:Int→Int)(l:Lnk):Int→Int:=fun x=>if F x=F l.b then F l.a else F x
def stepG (s:List (List Int × Int) × (Int→Int))(l:Lnk):List (List Int × Int) × (Int→Int):=(upE s.1 [s.2 l.b] (s.2 l.a),stepF s.2 l)
theorem grp_step {ids:List Int}{ents:List (List Int × Int)}{F:Int→Int}{l:Lnk}(h:GrpOK ids ents F)(ha:l.a∈ids)(hb:l.b∈ids):GrpOK ids (upE ents [F l.b] (F l.a)) (stepF F l):=by
 obtain⟨-,fa,ra⟩:=h l.a ha
 obtain⟨-,fb,rb⟩:=h l.b hb
 intro x hx
 obtain⟨⟨n,hn⟩,fx,rx⟩:=h x hx
 unfold stepF
 by_cases hab:F l.a=F l.b
 ·rw[hab]
  by_cases hxb:F x=F l.b
  ·rw[if_pos hxb,←hxb]
   exact⟨⟨n,head_same rx hn⟩,fx,by rw[lkE_up,if_pos rfl]⟩
  ·rw[if_neg hxb]
   exact⟨⟨n,head_same rb hn⟩,fx,by rw[lkE_up,if_neg (by simpa using fun e=>hxb e.symm)];exact rx⟩
 ·by_cases hxb:F x=F l.b
  ·rw[if_pos hxb]
   rw[hxb]at hn
   exact⟨⟨n+1,head_up2 ra rb hab hn⟩,fa,by rw[lkE_up,if_neg (by simpa using fun e=>hab e.symm)];exact ra⟩
  ·rw[if_neg hxb]
   exact⟨⟨n,head_up rb hxb hn⟩,fx,by rw[lkE_up,if_neg (by simpa using fun e=>hxb e.symm)];exact rx⟩
def ents0 (vs:List Vpc):List (List Int × Int):=vs.foldl (fun e v=>upE e [v.id] v.id) []
theorem foldl_snoc {α β:Type}{f:β→α→β}{b:β}{l:List α}{k:Nat}{x:α}(h:l[k]? =some x):(l.take (k+1)).foldl f b=f ((l.take k).foldl f b) x:=by rw[take_snoc h,List.foldl_append];rfl
theorem ents0_at (l:List Vpc)(e:List (List Int × Int))(x:Int):lkE (l.foldl (fun e v=>upE e [v.id] v.id) e) [x]=if x∈l.map (·.id)then some x else lkE e [x]:=by
 induction l generalizing e with
 |nil=>simp
 |cons v l ih=>
  rw[List.foldl_cons,ih,lkE_up]
  by_cases h1:x∈l.map (·.id)
  ·rw[if_pos h1,if_pos (by simp only[List.map_cons,List.mem_cons];exact .inr h1)]
  ·rw[if_neg h1]
   by_cases h2:v.id=x
   ·subst h2;simp
   ·rw[if_neg (by simpa using h2),if_neg]
    simp only[List.map_cons,List.mem_cons,not_or]
    exact⟨fun e=>h2 e.symm,h1⟩
theorem grp_0 (vs:List Vpc):GrpOK (vs.map (·.id)) (ents0 vs) (fun x=>x):=fun x hx=>by
 have:=ents0_at vs [] x
 rw[if_pos hx]at this
 exact⟨⟨0,this,rfl⟩,hx,this⟩
def stN (n:Net):List (List Int × Int) × (Int→Int):=n.links.foldl stepG (ents0 n.vpcs,fun x=>x)
theorem grp_k {n:Net}(hl:∀l∈n.links,l.a∈n.vpcs.map (·.id)∧l.b∈n.vpcs.map (·.id))(k:Nat):GrpOK (n.vpcs.map (·.id)) ((n.links.take k).foldl stepG (ents0 n.vpcs,fun x=>x)).1 ((n.links.take k).foldl stepG (ents0 n.vpcs,fun x=>x)).2:=by
 induction k with
 |zero=>exact grp_0 n.vpcs
 |succ k ih=>
  by_cases hk:k < n.links.length
  ·have hx:=List.getElem?_eq_getElem hk
   rw[foldl_snoc hx]
   have:=hl _ (List.getElem_mem hk)
   exact grp_step ih this.1 this.2
  ·rw[List.take_of_length_le (by omega)]at ih ⊢
   exact ih
def usL (pid:Int)(m:List (List Int × Int))(l:Lse):List (List Int × Int):=if l.kind=1 then upE m [l.at_.at_,l.at_.len,pid] l.owner else m
def usP (m:List (List Int × Int))(p:Pol):List (List Int × Int):=p.leases.foldl (usL p.id) m
def usE (b:Bok):List (List Int × Int):=b.pools.foldl usP []
theorem users_m (b:Bok)(h1:b.pools.length≤1000000000)(h2:∀p∈b.pools,p.leases.length≤1000000000):
 MSpec Tryz.prog 34 [.d (.agg (encB b))] [] (.mref 1) [.gone,.mp 3 true (usE b)]:=by
 replace h2:=Lib.hid h2
 refine mj Tryz.func34 Tryz.ntmps34 Tryz.results34 ?_
 refine wk1 ?_
 refine loopL tab_ok mixed b.pools (fun _=>True) (fun k=>[(12,.d (.v (.int .i64 k))),(11,.d (.v (.int .i64 b.pools.length))),(10,.d (.sl 9 (b.pools.map encPol))),(3,.mref 1)])
  (fun k=>[.gone,.mp 3 true ((b.pools.take k).foldl usP [])]) trivial ?_ ?_ ?_
 ·exact(weak_gone 0 (by simp)).trans wf
 ·intro k p hp hk _ C hC
  have hkI:(k:Int) < (b.pools.length:Int):=by omega
  have hwr:=wi k (by omega)
  have hpl:=h2.out p (List.mem_of_getElem? hp)
  have hs:(b.pools.take (k+1)).foldl usP []=p.leases.foldl (usL p.id) ((b.pools.take k).foldl usP []):=by rw[foldl_snoc hp];rfl
  replace hs:=Lib.hid hs
  generalize (b.pools.take k).foldl usP []=M at*
  refine wk1 ?_
  refine loopL tab_ok mixed p.leases (fun _=>True) (fun j=>[(19,.d (.v (.int .i64 j))),(18,.d (.v (.int .i64 p.leases.length))),(17,.d (.sl 5 (p.leases.map encL))),(5,.ptr 2 0),(12,.d (.v (.int .i64 k))),(11,.d (.v (.int .i64 b.pools.length))),(10,.d (.sl 9 (b.pools.map encPol))),(3,.mref 1)])
   (fun j=>[.gone,.mp 3 true ((p.leases.take j).foldl (usL p.id) M),.box 62 ((encPol p).map .d)]) trivial wf ?_ ?_
  ·intro j l hl hj _ D hD
   have hjI:(j:Int) < (p.leases.length:Int):=by omega
   have hwj:=wi j (by omega)
   have ht:(p.leases.take (j+1)).foldl (usL p.id) M=if l.kind=1 then upE ((p.leases.take j).foldl (usL p.id) M) [l.at_.at_,l.at_.len,p.id] l.owner else (p.leases.take j).foldl (usL p.id) M:=by rw[foldl_snoc hl];rfl
   generalize (p.leases.take j).foldl (usL p.id) M=Mj at*
   by_cases hk1:l.kind=1
   ·rw[if_pos hk1]at ht
    have e1:(l.kind==1)=true:=by simpa using hk1
    replace ht:=Lib.hid ht
    replace hk1:=Lib.hid hk1
    refine wk1 ?_
    exact hD _ _ trivial (wf (hh:=by rw[ht.out];rfl))
   ·rw[if_neg hk1]at ht
    have e1:(l.kind==1)=false:=by simpa using hk1
    replace ht:=Lib.hid ht
    replace hk1:=Lib.hid hk1
    refine wk1 ?_
    exact hD _ _ trivial (wf (hh:=by rw[ht.out];rfl))
  ·intro _ D
   rw[List.take_length]
   refine wk1 ?_
   exact hC _ _ trivial (wf (hh:=by rw[hs.out];rfl))
 ·intro _ C
  rw[List.take_length]
  refine wk1 ?_
  exact weak_eq rfl rfl
def rgOK (E:List (List Int × Int))(id:Int)(r:Rng):Bool:=(lkE E [r.at_.at_,r.at_.len,r.pool]).getD 0==id
def nRng (vs:List Vpc):Nat:=(vs.map (·.ranges.length)).sum
def heldB (vs:List Vpc)(o:Int):Bool:=vs.any (·.id==o)
def rngsOK (E:List (List Int × Int))(vs:List Vpc):Bool:=vs.all fun v=>v.ranges.all (rgOK E v.id)
def atHeld (E:List (List Int × Int))(p:Int→Bool)(i:Nat):Bool:=match E[i]? with|some kv=>p kv.2|none=>false
theorem atHeld_all (E:List (List Int × Int))(p:Int→Bool):(List.range E.length).countP (atHeld E p)=E.countP fun kv=>p kv.2:=by
 induction E with
 |nil=>rfl
 |cons a l ih=>
  rw[List.length_cons,List.range_succ_eq_map,List.countP_cons,List.countP_map,List.countP_cons]
  have:(atHeld (a::l) p∘Nat.succ)=atHeld l p:=by funext i;rfl
  rw[this,ih]
  rfl
theorem seen_perm {n:Nat}{seen:List Nat}(hn:seen.Nodup)(hl:∀i∈seen,i < n)(ha:∀i,i < n→i∈seen):seen.Perm (List.range n):=
 (List.perm_ext_iff_of_nodup hn List.nodup_range).2 fun i=>by
  rw[List.mem_range]
  exact⟨hl i,ha i⟩
theorem seen_all {E:List (List Int × Int)}{p:Int→Bool}{seen:List Nat}(hn:seen.Nodup)(hl:∀i∈seen,i < E.length)(ha:∀i,i < E.length→i∈seen):seen.countP (atHeld E p)=E.countP fun kv=>p kv.2:=by
 rw[←atHeld_all]
 exact List.Perm.countP_eq _ (seen_perm hn hl ha)
def leftN (n:Nat)(seen:List Nat):Nat:=((List.range n).filter fun i=>!seen.contains i).length
theorem left_lt {n i:Nat}{seen:List Nat}(hi:i < n)(hs:i∉seen):leftN n (seen++[i]) < leftN n seen:=by
 unfold leftN
 have hsub:((List.range n).filter fun j=>!(seen++[i]).contains j)=((List.range n).filter fun j=>!seen.contains j).filter (fun j=>!(j==i)):=by
  rw[List.filter_filter]
  refine List.filter_congr fun j _=>?_
  by_cases h:j=i
  ·subst h;simp
  ·by_cases h2:j∈seen<;>simp[h,h2]
 rw[hsub]
 refine List.length_filter_lt_length_iff_exists.2 ⟨i,?_,by simp⟩
 rw[List.mem_filter]
 exact⟨List.mem_range.2 hi,by simpa using hs⟩
theorem nRng_take {vs:List Vpc}{k:Nat}{v:Vpc}(h:vs[k]? =some v):nRng (vs.take (k+1))=nRng (vs.take k)+v.ranges.length:=by
 unfold nRng
 rw[take_snoc h,List.map_append,List.sum_append]
 simp
theorem nRng_bd {vs:List Vpc}{n:Nat}(h:∀v∈vs,v.ranges.length≤n):nRng vs≤vs.length*n:=by
 induction vs with
 |nil=>simp[nRng]
 |cons v vs ih=>
  have h1:=h v (by simp)
  have h2:=ih fun x hx=>h x (by simp[hx])
  simp only[nRng,List.map_cons,List.sum_cons,List.length_cons]at*
  rw[Nat.add_mul];omega
theorem upE_len (m:List (List Int × Int))(k:List Int)(v:Int):(upE m k v).length≤m.length+1:=by
 induction m with
 |nil=>simp[upE]
 |cons a m ih=>
  unfold upE
  split
  ·simp
  ·simp only[List.length_cons];omega
theorem usP_len (l:List Lse)(pid:Int):∀(m:List (List Int × Int)),(l.foldl (usL pid) m).length≤m.length+l.length:=by
 induction l with
 |nil=>intro m;simp
 |cons a l ih=>
  intro m
  rw[List.foldl_cons]
  have h1:=ih (usL pid m a)
  have h2:(usL pid m a).length≤m.length+1:=by
   unfold usL
   split
   ·exact upE_len _ _ _
   ·omega
  simp only[List.length_cons];omega
theorem usE_len {b:Bok}{n:Nat}(h:∀p∈b.pools,p.leases.length≤n):(usE b).length≤b.pools.length*n:=by
 unfold usE
 have key:∀(l:List Pol) (m:List (List Int × Int)),(∀p∈l,p.leases.length≤n)→(l.foldl usP m).length≤m.length+l.length*n:=by
  intro l
  induction l with
  |nil=>intro m _;simp
  |cons a l ih=>
   intro m hl
   rw[List.foldl_cons]
   have h1:=ih (usP m a) fun p hp=>hl p (by simp[hp])
   have h2:=usP_len a.leases a.id m
   have h3:=hl a (by simp)
   simp only[List.length_cons]
   rw[Nat.add_mul]
   unfold usP at*
   omega
 have:=key b.pools [] h
 simpa using this
theorem of_m (n:Net)(h1:n.vpcs.length≤1000000000)(h2:n.links.length≤1000000000)(hl:∀l∈n.links,l.a∈n.vpcs.map (·.id)∧l.b∈n.vpcs.map (·.id)):
 MSpec Tryz.prog 46 [.d (.ept (encT n))] [] (.mref 0) [.mp 1 false (stN n).1]:=by
 have hg:=Lib.hid (grp_k hl)
 replace hl:=Lib.hid hl
 refine mj Tryz.func46 Tryz.ntmps46 Tryz.results46 ?_
 refine wk1 ?_<;>intros
 refine loopL tab_ok mixed n.vpcs (fun _=>True) (fun k=>[(14,.d (.v (.int .i64 k))),(13,.d (.v (.int .i64 n.vpcs.length))),(12,.d (.sl 3 (n.vpcs.map encV))),(3,.mref 0),(0,.d (.ept (encT n)))]) (fun k=>[.mp 1 false (ents0 (n.vpcs.take k))]) trivial (weak_forget _ (by simp) (by(try simp only[encT]);rfl) se bl bl) ?_ ?_
 ·intro k v hv hk _ C hC
  have hkI:(k:Int) < (n.vpcs.length:Int):=by omega
  have hwr:=wi k (by omega)
  have hs:ents0 (n.vpcs.take (k+1))=upE (ents0 (n.vpcs.take k)) [v.id] v.id:=foldl_snoc hv
  replace hs:=Lib.hid hs
  refine wk1 ?_<;>intros
  exact hC _ _ trivial (weak_forget _ (by simp) (by rw[hs.out];rfl) se bl bl)
 ·intro _ C
  rw[List.take_length]
  refine wk1 ?_<;>intros
  refine loopL tab_ok mixed n.links (fun _=>True) (fun k=>[(29,.d (.v (.int .i64 k))),(28,.d (.v (.int .i64 n.links.length))),(27,.d (.sl 2 (n.links.map encK))),(3,.mref 0)]) (fun k=>[.mp 1 false ((n.links.take k).foldl stepG (ents0 n.vpcs,fun x=>x)).1]) trivial (weak_forget _ (by simp) (by(try simp only[encT]);rfl) se bl bl) ?_ ?_
  ·intro k l hlk hk _ C hC
   have hkI:(k:Int) < (n.links.length:Int):=by omega
   have hwr:=wi k (by omega)
   have hs:((n.links.take (k+1)).foldl stepG (ents0 n.vpcs,fun x=>x)).1=upE ((n.links.take k).foldl stepG (ents0 n.vpcs,fun x=>x)).1 [((n.links.take k).foldl stepG (ents0 n.vpcs,fun x=>x)).2 l.b] (((n.links.take k).foldl stepG (ents0 n.vpcs,fun x=>x)).2 l.a):=by rw[foldl_snoc hlk];rfl
   have hm:=hl.out l (List.mem_of_getElem? hlk)
   obtain⟨⟨na,ha⟩,-,-⟩:=hg.out k l.a hm.1
   obtain⟨⟨nb,hb⟩,-,-⟩:=hg.out k l.b hm.2
   generalize (n.links.take k).foldl stepG (ents0 n.vpcs,fun x=>x)=S at*
   have hma:=head_m S.1 na l.a (S.2 l.a) ha
   have hmb:=head_m S.1 nb l.b (S.2 l.b) hb
   clear ha hb hm
   replace hs:=Lib.hid hs
   repeat' (first|(with_reducible refine And.intro ?_ ?_)|(with_reducible refine gK_i (fun _=>?_) (fun _=>?_))|(with_reducible refine condS_i (fun _=>?_) (fun _=>?_))|(with_reducible refine drw_i (by kernel_rfl))|simp -dsimp only[go_sem,seval, *,encT,encK,hkI,hwr,hlk,undef]|((with_reducible refine opK_c ?_);simp -dsimp only[go_sem,seval,encT,encK,hkI,hwr,hlk,undef];first|refine callK_r (by first|assumption|fail) (by first|exact .inl rfl|exact .inr rfl) ?_|(refine callK_i (by assumption) ?_ ?_ ?_;(solve|(repeat(first|exact DLe.refl _|exact DLe.nil _|(refine DLe.tup ?_)|(refine DLe.agg ?_ rfl)|exact trivial|(refine And.intro ?_ ?_))));(solve|exact .inl rfl|exact .inr rfl)))|(refine opK_M [0] (hmb) ?_ ?_ ?_ ?_ ?_ ?_;(solve|rfl|simp only[go_sem,seval,encK]);(solve|rfl);(solve|decide);(solve|simp);(solve|simp only[go_sem,seval,lentOK,encK]))|(refine opK_M [0] (hma) ?_ ?_ ?_ ?_ ?_ ?_;(solve|rfl|simp only[go_sem,seval,encK]);(solve|rfl);(solve|decide);(solve|simp);(solve|simp only[go_sem,seval,lentOK,encK]))|omega|exact decide_eq_true (by omega)|exact DLe.refl _)
   exact hC _ _ trivial (weak_forget _ (by simp) (by rw[hs.out];rfl) se bl bl)
  ·intro _ C
   rw[List.take_length]
   refine wk1 ?_<;>intros
   all_goals exact weak_eq rfl rfl
def headN (n:Net):Int→Int:=(stN n).2
def foeN (n:Net)(v w:Vpc):Bool:=(headN n v.id==headN n w.id)&&clashV v w
def peaceN (n:Net):Bool:=(List.range n.vpcs.length).all fun k=>match n.vpcs[k]? with|some v=>(n.vpcs.take k).all fun w=>!foeN n v w|none=>true
theorem peace_bad {n:Net}{i j:Nat}{v w:Vpc}(hij:j < i)(hv:n.vpcs[i]? =some v)(hw:n.vpcs[j]? =some w)(h:foeN n v w=true):peaceN n=false:=by
 unfold peaceN
 rw[List.all_eq_false]
 refine⟨i,List.mem_range.2 (List.getElem?_eq_some_iff.1 hv).1,?_⟩
 rw[hv]
 simp only[Bool.not_eq_true,List.all_eq_false]
 exact⟨w,List.mem_of_getElem? (i:=j) (by rw[List.getElem?_take_of_lt hij];exact hw),by rw[h];simp⟩
theorem peace_good {n:Net}(h:∀(i:Nat) (v w:Vpc),n.vpcs[i]? =some v→w∈n.vpcs.take i→foeN n v w=false):peaceN n=true:=by
 unfold peaceN
 rw[List.all_eq_true]
 intro i hi
 have hl:=List.mem_range.1 hi
 rw[List.getElem?_eq_getElem hl]
 simp only[List.all_eq_true]
 intro w hw
 rw[h i _ w (List.getElem?_eq_getElem hl) hw];rfl
theorem peace_p (n:Net)(h1:n.vpcs.length≤1000000000)(h2:n.links.length≤1000000000)(hr:∀v∈n.vpcs,v.ranges.length≤1000000000)(hl:∀l∈n.links,l.a∈n.vpcs.map (·.id)∧l.b∈n.vpcs.map (·.id)):
 PSpec Tryz.prog 99 [.ept (encT n)] (.v (.bool (peaceN n))):=by
 have hof:=of_m n h1 h2 hl
 have hg:∀x∈n.vpcs.map (·.id),∃k,HeadIs (stN n).1 k x (headN n x):=fun x hx=>by
  have:=(grp_k hl n.links.length x (by exact hx)).1
  rwa [List.take_length]at this
 replace hg:=Lib.hid hg
 replace hr:=Lib.hid hr
 clear hl
 obtain⟨R,hR⟩:∃R,R=peaceN n:=⟨_,rfl⟩
 rw[←hR]
 replace hR:=Lib.hid hR
 generalize (stN n).1=E at*
 refine pj Tryz.func99 Tryz.ntmps99 Tryz.results99 ?_
 have z1z:=Ln.mk (ls:=[]) (hof)
 refine wk1 ?_<;>intros
 clear hof
 refine loopL tab_ok mixed n.vpcs (fun k=>∀(i:Nat) (v w:Vpc),i < k→n.vpcs[i]? =some v→w∈n.vpcs.take i→foeN n v w=false) (fun k=>[(15,.d (.v (.int .i64 k))),(14,.d (.v (.int .i64 n.vpcs.length))),(13,.d (.sl 3 (n.vpcs.map encV))),(3,.mref 0),(2,.d (.v (.bool false))),(0,.d (.ept (encT n)))]) (fun _=>[.mp 1 false E]) (fun i v w h=>absurd h (Nat.not_lt_zero _)) (weak_forget _ (by simp) (by(try simp only[encT]);rfl) se bl bl) ?_ ?_
 ·intro k v hv hk hI C hC
  have hkI:(k:Int) < (n.vpcs.length:Int):=by omega
  have hwr:=wi k (by omega)
  have hkl:k≤n.vpcs.length:=by omega
  have hvm:=List.mem_of_getElem? hv
  have hrv:=hr.out v hvm
  obtain⟨nv,hhv⟩:=hg.out v.id (List.mem_map.2 ⟨v,hvm,rfl⟩)
  have hmv:=head_m E nv v.id (headN n v.id) hhv
  have hlt:(n.vpcs.take k).length=k:=by rw[List.length_take];omega
  have hlt2:((n.vpcs.map encV).take k).length=k:=by rw[←List.map_take,List.length_map];exact hlt
  clear hhv
  replace hI:=Lib.hid hI
  refine wk1 ?_<;>intros
  refine loopL tab_ok mixed (n.vpcs.take k) (fun j=>∀w∈(n.vpcs.take k).take j,foeN n v w=false) (fun j=>[(27,.d (.v (.int .i64 j))),(26,.d (.v (.int .i64 k))),(25,.d (.sl 3 ((n.vpcs.map encV).take k))),(5,.ptr 1 0),(15,.d (.v (.int .i64 k))),(14,.d (.v (.int .i64 n.vpcs.length))),(13,.d (.sl 3 (n.vpcs.map encV))),(3,.mref 0),(2,.d (.v (.bool false))),(0,.d (.ept (encT n)))]) (fun _=>[.mp 1 false E,.box 55 ((encV v).map .d)]) (fun w hw=>by simp at hw) (weak_forget _ (by simp) (by(try simp only[encT,encV]);rfl) se bl bl) ?_ ?_
  ·intro j w hw hj hJ C2 hC2
   have hjI:(j:Int) < (k:Int):=by omega
   have hw3:((n.vpcs.map encV).take k)[j]? =some (encV w):=by rw[←List.map_take,List.getElem?_map,hw];rfl
   have hwj:=wi j (by omega)
   have hjk:j < k:=by omega
   have hw2:n.vpcs[j]? =some w:=by rw[List.getElem?_take_of_lt hjk]at hw;exact hw
   have hwm:=List.mem_of_getElem? hw2
   have hrw:=hr.out w hwm
   obtain⟨nw,hhw⟩:=hg.out w.id (List.mem_map.2 ⟨w,hwm,rfl⟩)
   have hmw:=head_m E nw w.id (headN n w.id) hhw
   have hcl:=clash_p v w hrv hrw
   have hbad:foeN n v w=true→R=false:=fun h=>by rw[hR.out];exact peace_bad hjk hv hw2 h
   have hstep:foeN n v w=false→∀u∈(n.vpcs.take k).take (j+1),foeN n v u=false:=fun h u hu=>by
    rw[take_snoc hw]at hu
    rcases List.mem_append.1 hu with hu|hu
    ·exact hJ u hu
    ·rw[List.mem_singleton.1 hu];exact h
   have hfd:foeN n v w=((headN n v.id==headN n w.id)&&clashV v w):=rfl
   clear hhw hlt hlt2
   replace hbad:=Lib.hid hbad
   replace hstep:=Lib.hid hstep
   replace hfd:=Lib.hid hfd
   replace hJ:=Lib.hid hJ
   replace hw:=Lib.hid hw
   generalize (n.vpcs.map encV).take k=L at*
   cases e1:(headN n v.id==headN n w.id)with
   |false=>
    have hf:=Lib.hid (hstep.out (by rw[hfd.out,e1];rfl))
    repeat' (first|(with_reducible refine And.intro ?_ ?_)|(with_reducible refine gK_i (fun _=>?_) (fun _=>?_))|(with_reducible refine condS_i (fun _=>?_) (fun _=>?_))|(with_reducible refine drw_i (by kernel_rfl))|simp -dsimp only[go_sem,seval, *,encV,hjI,hwj,hw3,e1,undef]|((with_reducible refine opK_c ?_);simp -dsimp only[go_sem,seval,encV,hjI,hwj,hw3,e1,undef];first|refine callK_r (by first|assumption|fail) (by first|exact .inl rfl|exact .inr rfl) ?_|(refine callK_i (by assumption) ?_ ?_ ?_;(solve|(repeat(first|exact DLe.refl _|exact DLe.nil _|(refine DLe.tup ?_)|(refine DLe.agg ?_ rfl)|exact trivial|(refine And.intro ?_ ?_))));(solve|exact .inl rfl|exact .inr rfl)))|(refine opK_M [0] (hmv) ?_ ?_ ?_ ?_ ?_ ?_;(solve|rfl|simp only[go_sem,seval,encV]);(solve|rfl);(solve|decide);(solve|simp);(solve|simp only[go_sem,seval,lentOK,encV]))|(refine opK_M [0] (hmw) ?_ ?_ ?_ ?_ ?_ ?_;(solve|rfl|simp only[go_sem,seval,encV]);(solve|rfl);(solve|decide);(solve|simp);(solve|simp only[go_sem,seval,lentOK,encV]))|omega|exact decide_eq_true (by omega)|exact DLe.refl _)
    exact hC2 _ _ hf.out (weak_forget _ (by simp) (by(try simp only[encT,encV]);rfl) se bl bl)
   |true=>
    cases e2:clashV v w with
    |true=>
     have hb:R=false:=hbad.out (by rw[hfd.out,e1,e2];rfl)
     rw[hb]
     replace hb:=Lib.hid hb
     rw[e2]at hcl
     repeat' (first|(with_reducible refine And.intro ?_ ?_)|(with_reducible refine gK_i (fun _=>?_) (fun _=>?_))|(with_reducible refine condS_i (fun _=>?_) (fun _=>?_))|(with_reducible refine drw_i (by kernel_rfl))|simp -dsimp only[go_sem,seval, *,encV,hjI,hwj,hw3,e1,undef]|((with_reducible refine opK_c ?_);simp -dsimp only[go_sem,seval,encV,hjI,hwj,hw3,e1,undef];first|refine callK_r (by first|assumption|exact hcl) (by first|exact .inl rfl|exact .inr rfl) ?_|(refine callK_i (by assumption) ?_ ?_ ?_;(solve|(repeat(first|exact DLe.refl _|exact DLe.nil _|(refine DLe.tup ?_)|(refine DLe.agg ?_ rfl)|exact trivial|(refine And.intro ?_ ?_))));(solve|exact .inl rfl|exact .inr rfl)))|(refine opK_M [0] (hmv) ?_ ?_ ?_ ?_ ?_ ?_;(solve|rfl|simp only[go_sem,seval,encV]);(solve|rfl);(solve|decide);(solve|simp);(solve|simp only[go_sem,seval,lentOK,encV]))|(refine opK_M [0] (hmw) ?_ ?_ ?_ ?_ ?_ ?_;(solve|rfl|simp only[go_sem,seval,encV]);(solve|rfl);(solve|decide);(solve|simp);(solve|simp only[go_sem,seval,lentOK,encV]))|omega|exact decide_eq_true (by omega)|exact DLe.refl _)
     all_goals exact DLe.refl _
    |false=>
     have hf:=Lib.hid (hstep.out (by rw[hfd.out,e1,e2];rfl))
     rw[e2]at hcl
     repeat' (first|(with_reducible refine And.intro ?_ ?_)|(with_reducible refine gK_i (fun _=>?_) (fun _=>?_))|(with_reducible refine condS_i (fun _=>?_) (fun _=>?_))|(with_reducible refine drw_i (by kernel_rfl))|simp -dsimp only[go_sem,seval, *,encV,hjI,hwj,hw3,e1,undef]|((with_reducible refine opK_c ?_);simp -dsimp only[go_sem,seval,encV,hjI,hwj,hw3,e1,undef];first|refine callK_r (by first|assumption|exact hcl) (by first|exact .inl rfl|exact .inr rfl) ?_|(refine callK_i (by assumption) ?_ ?_ ?_;(solve|(repeat(first|exact DLe.refl _|exact DLe.nil _|(refine DLe.tup ?_)|(refine DLe.agg ?_ rfl)|exact trivial|(refine And.intro ?_ ?_))));(solve|exact .inl rfl|exact .inr rfl)))|(refine opK_M [0] (hmv) ?_ ?_ ?_ ?_ ?_ ?_;(solve|rfl|simp only[go_sem,seval,encV]);(solve|rfl);(solve|decide);(solve|simp);(solve|simp only[go_sem,seval,lentOK,encV]))|(refine opK_M [0] (hmw) ?_ ?_ ?_ ?_ ?_ ?_;(solve|rfl|simp only[go_sem,seval,encV]);(solve|rfl);(solve|decide);(solve|simp);(solve|simp only[go_sem,seval,lentOK,encV]))|omega|exact decide_eq_true (by omega)|exact DLe.refl _)
     exact hC2 _ _ hf.out (weak_forget _ (by simp) (by(try simp only[encT,encV]);rfl) se bl bl)
  ·intro hJ C2
   rw[List.take_length]at hJ
   have hI2:∀(i:Nat) (u w:Vpc),i < k+1→n.vpcs[i]? =some u→w∈n.vpcs.take i→foeN n u w=false:=fun i u w hi hu hw=>by
    rcases Nat.lt_or_ge i k with h|h
    ·exact hI.out i u w h hu hw
    ·obtain rfl:i=k:=by omega
     rw[hv]at hu
     rw[←Option.some.inj hu]
     exact hJ w hw
   replace hI2:=Lib.hid hI2
   replace hJ:=Lib.hid hJ
   rw[hlt]
   refine wk1 ?_<;>intros
   exact hC _ _ hI2.out (weak_forget _ (by simp) (by(try simp only[encT]);rfl) se bl bl)
 ·intro hI C
  have hb:R=true:=by
   rw[hR.out]
   exact peace_good fun i v w hv hw=>hI i v w (List.getElem?_eq_some_iff.1 hv).1 hv hw
  rw[hb]
  replace hb:=Lib.hid hb
  replace hI:=Lib.hid hI
  exact wk0
  all_goals exact DLe.refl _
def lnkB (n:Net)(l:Lnk):Bool:=(findN n l.a).isSome&&((findN n l.b).isSome&&decide (l.a < l.b))
def risK:List Lnk→Bool
 |l::m::ls=>decide (ordK l m < 0)&&risK (m::ls)
 |_=>true
theorem risK_at:∀(l:List Lnk),risK l=true↔∀j (h:j+1 < l.length),ordK l[j] l[j+1] < 0
 |[]=>by simp[risK]
 |[a]=>by simp[risK]
 |a::b::l=>by
  have ih:=risK_at (b::l)
  simp only[risK,Bool.and_eq_true,decide_eq_true_eq,ih]
  constructor
  ·rintro⟨h1,h2⟩ j hj
   cases j with
   |zero=>exact h1
   |succ j=>exact h2 j (by simpa using hj)
  ·intro h
   exact⟨h 0 (by simp),fun j hj=>h (j+1) (by simpa using hj)⟩
def vpcsB (n:Net):Bool:=n.vpcs.all (fun v=>chkV v==0)&&risB (·.id) n.vpcs
def chkT (n:Net):Int:=if n.vpcs.length>6∨n.links.length>12 then 2 else if vpcsB n&&(n.links.all (lnkB n)&&(risK n.links&&peaceN n))then 0 else 1
theorem find_ids {n:Net}{x:Int}(h:(findN n x).isSome=true):x∈n.vpcs.map (·.id):=by
 obtain⟨v,hv⟩:=Option.isSome_iff_exists.1 h
 unfold findN at hv
 have h1:=List.mem_of_find?_eq_some hv
 have h2:=List.find?_some hv
 exact List.mem_map.2 ⟨v,h1,by simpa using h2⟩
theorem chkT_one {n:Net}(h0:¬(n.vpcs.length>6∨n.links.length>12))(h:vpcsB n=false∨n.links.all (lnkB n)=false∨risK n.links=false∨peaceN n=false):chkT n=1:=by
 unfold chkT
 rw[if_neg h0]
 rcases h with h|h|h|h<;>simp[h]
theorem chkT_zero {n:Net}(h0:¬(n.vpcs.length>6∨n.links.length>12))(h1:vpcsB n=true)(h2:n.links.all (lnkB n)=true)(h3:risK n.links=true)(h4:peaceN n=true):chkT n=0:=by
 unfold chkT
 rw[if_neg h0,h1,h2,h3,h4];rfl
def lastV (l:List Vpc):Int:=(l.getLast?.map (·.id)).getD 0
theorem lastV_snoc (l:List Vpc)(v:Vpc):lastV (l++[v])=v.id:=by simp[lastV]
theorem lastV_pair {l:List Vpc}(hs:l.Pairwise fun a b=>a.id < b.id){v:Vpc}(h:lastV l < v.id):(l++[v]).Pairwise fun a b=>a.id < b.id:=by
 rw[List.pairwise_append]
 refine⟨hs,by simp,fun a ha b hb=>?_⟩
 rw[List.mem_singleton.1 hb]
 rcases List.eq_nil_or_concat l with rfl|⟨l',x,rfl⟩
 ·cases ha
 ·rw[List.concat_eq_append]at*
  rw[lastV_snoc]at h
  rw[List.pairwise_append]at hs
  rcases List.mem_append.1 ha with ha|ha
  ·have:=hs.2.2 a ha x (by simp);omega
  ·rw[List.mem_singleton.1 ha];exact h
theorem lastV_bad {l:List Vpc}{v:Vpc}(hv:1≤v.id)(h:v.id≤lastV l):¬(l++[v]).Pairwise fun a b=>a.id < b.id:=by
 intro hp
 rw[List.pairwise_append]at hp
 rcases List.eq_nil_or_concat l with rfl|⟨l',x,rfl⟩
 ·simp[lastV]at h;omega
 ·rw[List.concat_eq_append]at*
  rw[lastV_snoc]at h
  have:=hp.2.2 x (by simp) v (by simp);omega
theorem vpcsB_take {n:Net}(h:vpcsB n=true)(k:Nat):(∀v∈n.vpcs.take k,chkV v=0)∧(n.vpcs.take k).Pairwise fun a b=>a.id < b.id:=by
 unfold vpcsB at h
 simp only[Bool.and_eq_true,List.all_eq_true,risB_pair,beq_iff_eq]at h
 exact⟨fun v hv=>h.1 v (List.mem_of_mem_take hv),h.2.sublist (List.take_sublist _ _)⟩
theorem vpcsB_of {n:Net}(h1:∀v∈n.vpcs,chkV v=0)(h2:n.vpcs.Pairwise fun a b=>a.id < b.id):vpcsB n=true:=by
 unfold vpcsB
 simp only[Bool.and_eq_true,List.all_eq_true,risB_pair,beq_iff_eq]
 exact⟨h1,h2⟩
theorem risK_snoc:∀(l:List Lnk) (x:Lnk),risK (l++[x])=(risK l&&(match l.getLast? with|some y=>decide (ordK y x < 0)|none=>true))
 |[],x=>rfl
 |[a],x=>by simp[risK]
 |a::b::l,x=>by
  have ih:=risK_snoc (b::l) x
  have e:(a::b::l).getLast? =(b::l).getLast? :=by simp[List.getLast?_cons_cons]
  rw[List.cons_append,List.cons_append,risK,←List.cons_append,ih,e,risK,Bool.and_assoc]
theorem risK_take {l:List Lnk}(h:risK l=true)(k:Nat):risK (l.take k)=true:=by
 rw[risK_at]at h ⊢
 intro j hj
 rw[List.getElem_take,List.getElem_take]
 exact h j (by rw[List.length_take]at hj;omega)
theorem last_take {α:Type}{l:List α}{j:Nat}{y:α}(h:l[j]? =some y):(l.take (j+1)).getLast? =some y:=by rw[take_snoc h];simp
theorem ncheck_p (n:Net):PSpec Tryz.prog 33 [.agg (encT n)] (.v (.int .i64 (chkT n))):=by
 obtain⟨R,hR⟩:∃R,R=chkT n:=⟨_,rfl⟩
 rw[←hR]
 replace hR:=Lib.hid hR
 by_cases h6:n.vpcs.length>6
 ·have h6I:decide ((n.vpcs.length:Int)>6)=true:=by simp;omega
  have hr:R=2:=by rw[hR.out,chkT,if_pos (.inl h6)]
  rw[hr]
  replace hr:=Lib.hid hr
  refine pj Tryz.func33 Tryz.ntmps33 Tryz.results33 ?_
  exact wk0
  all_goals exact DLe.refl _
 by_cases h12:n.links.length>12
 ·have h6I:decide ((n.vpcs.length:Int)>6)=false:=by simp;omega
  have h12I:decide ((n.links.length:Int)>12)=true:=by simp;omega
  have hr:R=2:=by rw[hR.out,chkT,if_pos (.inr h12)]
  rw[hr]
  replace hr:=Lib.hid hr
  refine pj Tryz.func33 Tryz.ntmps33 Tryz.results33 ?_
  exact wk0
  all_goals exact DLe.refl _
 have h6I:decide ((n.vpcs.length:Int)>6)=false:=by simp;omega
 have h12I:decide ((n.links.length:Int)>12)=false:=by simp;omega
 have hno:¬(n.vpcs.length>6∨n.links.length>12):=by omega
 refine pj Tryz.func33 Tryz.ntmps33 Tryz.results33 ?_
 refine wk1 ?_<;>intros
 refine loopL tab_ok mixed n.vpcs (fun k=>(∀v∈n.vpcs.take k,chkV v=0)∧(n.vpcs.take k).Pairwise fun a b=>a.id < b.id) (fun k=>[(25,.d (.v (.int .i64 k))),(24,.d (.v (.int .i64 n.vpcs.length))),(23,.d (.sl 3 (n.vpcs.map encV))),(3,.d (.v (.int .i64 (lastV (n.vpcs.take k))))),(2,.d (.v (.int .i64 0))),(1,.ptr 0 0)]) (fun _=>[.box 28 ((encT n).map .d)]) (by simp) (weak_forget _ (by simp) (by(try simp only[encT]);rfl) se bl bl) ?_ ?_
 ·intro k v hv hk hI C hC
  have hkI:(k:Int) < (n.vpcs.length:Int):=by omega
  have hwr:=wi k (by omega)
  have htk:=take_snoc hv
  have hls:lastV (n.vpcs.take (k+1))=v.id:=by rw[htk,lastV_snoc]
  have hcv:=vcheck_p v
  obtain⟨LA,hLA⟩:∃x,x=lastV (n.vpcs.take k):=⟨_,rfl⟩
  rw[←hLA]
  by_cases hc:chkV v=0
  ·have hid:1≤v.id:=by have:=(vpcOK_of hc).id;simp[idOK]at this;exact this.1
   rw[hc]at hcv
   by_cases hle:v.id≤LA
   ·have hr:R=1:=by
     rw[hR.out]
     refine chkT_one hno (.inl ?_)
     cases hb:vpcsB n with
     |false=>rfl
     |true=>
      have:=(vpcsB_take hb (k+1)).2
      rw[htk]at this
      exact absurd this (lastV_bad hid (by rw[←hLA];exact hle))
    rw[hr]
    clear hr hI hid hC hLA hls htk
    replace hc:=Lib.hid hc
    exact wk0
    all_goals exact DLe.refl _
   ·have hI2:(∀v∈n.vpcs.take (k+1),chkV v=0)∧(n.vpcs.take (k+1)).Pairwise fun a b=>a.id < b.id:=by
     rw[htk]
     exact⟨fun u hu=>by
      rcases List.mem_append.1 hu with hu|hu
      ·exact hI.1 u hu
      ·rw[List.mem_singleton.1 hu];exact hc,lastV_pair hI.2 (by rw[←hLA];omega)⟩
    have hlb:decide (v.id≤LA)=false:=by simpa using hle
    clear hI hid htk
    replace hc:=Lib.hid hc
    replace hle:=Lib.hid hle
    replace hI2:=Lib.hid hI2
    replace hls:=Lib.hid hls
    replace hLA:=Lib.hid hLA
    refine wk1 ?_<;>intros
    refine hC _ _ hI2.out ?_
    simp only[hls.out]
    exact weak_forget _ (by simp) (by(try simp only[encT]);rfl) se bl bl
  ·have hr:R=1:=by
    rw[hR.out]
    refine chkT_one hno (.inl ?_)
    cases hb:vpcsB n with
    |false=>rfl
    |true=>exact absurd ((vpcsB_take hb (k+1)).1 v (by rw[htk];simp)) hc
   have hcb:(chkV v !=0)=true:=by simpa using hc
   rw[hr]
   clear hr hI hC hLA hls htk
   replace hc:=Lib.hid hc
   exact wk0
   all_goals exact DLe.refl _
 ·intro hI C
  rw[List.take_length]at hI ⊢
  have hvB:=vpcsB_of hI.1 hI.2
  have hso:=hI.2
  generalize lastV n.vpcs=LA
  replace hI:=Lib.hid hI
  replace hso:=Lib.hid hso
  replace hvB:=Lib.hid hvB
  refine wk1 ?_<;>intros
  refine loopL tab_ok mixed n.links (fun k=>(∀l∈n.links.take k,lnkB n l=true)∧risK (n.links.take k)=true) (fun k=>[(44,.d (.v (.int .i64 k))),(43,.d (.v (.int .i64 n.links.length))),(42,.d (.sl 2 (n.links.map encK))),(2,.d (.v (.int .i64 0))),(1,.ptr 0 0)]) (fun _=>[.box 28 ((encT n).map .d)]) (by simp[risK]) (weak_forget _ (by simp) (by(try simp only[encT]);rfl) se bl bl) ?_ ?_
  ·intro k l hl hk hJ C hC
   have hkI:(k:Int) < (n.links.length:Int):=by omega
   have hwr:=wi k (by omega)
   have htk:=take_snoc hl
   have hfa:=nfindB_m n l.a (by omega) hso.out
   have hfb:=nfindB_m n l.b (by omega) hso.out
   have hbad:lnkB n l=false→R=1:=fun h=>by
    rw[hR.out]
    refine chkT_one hno (.inr (.inl ?_))
    rw[List.all_eq_false]
    exact⟨l,List.mem_of_getElem? hl,by simp[h]⟩
   have hlb:lnkB n l=((findN n l.a).isSome&&((findN n l.b).isSome&&decide (l.a < l.b))):=rfl
   have hgood:lnkB n l=true→risK (n.links.take (k+1))=true→(∀l∈n.links.take (k+1),lnkB n l=true)∧risK (n.links.take (k+1))=true:=fun h g=>by
    refine⟨?_,g⟩
    rw[htk]
    intro u hu
    rcases List.mem_append.1 hu with hu|hu
    ·exact hJ.1 u hu
    ·rw[List.mem_singleton.1 hu];exact h
   have hbad2:risK (n.links.take (k+1))=false→R=1:=fun h=>by
    rw[hR.out]
    refine chkT_one hno (.inr (.inr (.inl ?_)))
    cases hb:risK n.links with
    |false=>rfl
    |true=>rw[risK_take hb]at h;cases h
   have hrk:=risK_snoc (n.links.take k) l
   rw[←htk,hJ.2,Bool.true_and]at hrk
   clear htk
   replace hJ:=Lib.hid hJ
   replace hbad:=Lib.hid hbad
   replace hbad2:=Lib.hid hbad2
   replace hgood:=Lib.hid hgood
   cases ea:findN n l.a with
   |none=>
    rw[ea]at hfa hlb
    have hr:R=1:=hbad.out (by rw[hlb];rfl)
    rw[hr]
    clear hr hlb hrk
    replace ea:=Lib.hid ea
    cases eb:findN n l.b with
    |none=>
     rw[eb]at hfb
     replace eb:=Lib.hid eb
     repeat' (first|(with_reducible refine And.intro ?_ ?_)|(with_reducible refine gK_i (fun _=>?_) (fun _=>?_))|(with_reducible refine condS_i (fun _=>?_) (fun _=>?_))|(with_reducible refine drw_i (by kernel_rfl))|simp -dsimp only[go_sem,seval, *,encT,encK,findNP,findND,hkI,hl,undef]|((with_reducible refine opK_c ?_);simp -dsimp only[go_sem,seval,encT,encK,findNP,findND,hkI,hl,undef];first|refine callK_r (by first|assumption|fail) (by first|exact .inl rfl|exact .inr rfl) ?_|(refine callK_i (by assumption) ?_ ?_ ?_;(solve|(repeat(first|exact DLe.refl _|exact DLe.nil _|(refine DLe.tup ?_)|(refine DLe.agg ?_ rfl)|exact trivial|(refine And.intro ?_ ?_))));(solve|exact .inl rfl|exact .inr rfl)))|(refine opK_M [0] (hfa) ?_ ?_ ?_ ?_ ?_ ?_;(solve|rfl|simp only[go_sem,seval,encT,findNP,findND]);(solve|rfl);(solve|decide);(solve|simp);(solve|simp only[go_sem,seval,lentOK,encT,findNP,findND]))|(refine opK_M [0] (hfb) ?_ ?_ ?_ ?_ ?_ ?_;(solve|rfl|simp only[go_sem,seval,encT,findNP,findND]);(solve|rfl);(solve|decide);(solve|simp);(solve|simp only[go_sem,seval,lentOK,encT,findNP,findND]))|omega|exact decide_eq_true (by omega)|exact DLe.refl _)
     all_goals exact DLe.refl _
    |some w=>
     rw[eb]at hfb
     replace eb:=Lib.hid eb
     repeat' (first|(with_reducible refine And.intro ?_ ?_)|(with_reducible refine gK_i (fun _=>?_) (fun _=>?_))|(with_reducible refine condS_i (fun _=>?_) (fun _=>?_))|(with_reducible refine drw_i (by kernel_rfl))|simp -dsimp only[go_sem,seval, *,encT,encK,findNP,findND,hkI,hl,undef]|((with_reducible refine opK_c ?_);simp -dsimp only[go_sem,seval,encT,encK,findNP,findND,hkI,hl,undef];first|refine callK_r (by first|assumption|fail) (by first|exact .inl rfl|exact .inr rfl) ?_|(refine callK_i (by assumption) ?_ ?_ ?_;(solve|(repeat(first|exact DLe.refl _|exact DLe.nil _|(refine DLe.tup ?_)|(refine DLe.agg ?_ rfl)|exact trivial|(refine And.intro ?_ ?_))));(solve|exact .inl rfl|exact .inr rfl)))|(refine opK_M [0] (hfa) ?_ ?_ ?_ ?_ ?_ ?_;(solve|rfl|simp only[go_sem,seval,encT,findNP,findND]);(solve|rfl);(solve|decide);(solve|simp);(solve|simp only[go_sem,seval,lentOK,encT,findNP,findND]))|(refine opK_M [0] (hfb) ?_ ?_ ?_ ?_ ?_ ?_;(solve|rfl|simp only[go_sem,seval,encT,findNP,findND]);(solve|rfl);(solve|decide);(solve|simp);(solve|simp only[go_sem,seval,lentOK,encT,findNP,findND]))|omega|exact decide_eq_true (by omega)|exact DLe.refl _)
     all_goals exact DLe.refl _
   |some v=>
    rw[ea]at hfa hlb
    replace ea:=Lib.hid ea
    cases eb:findN n l.b with
    |none=>
     rw[eb]at hfb hlb
     have hr:R=1:=hbad.out (by rw[hlb];rfl)
     rw[hr]
     clear hr hlb hrk
     replace eb:=Lib.hid eb
     repeat' (first|(with_reducible refine And.intro ?_ ?_)|(with_reducible refine gK_i (fun _=>?_) (fun _=>?_))|(with_reducible refine condS_i (fun _=>?_) (fun _=>?_))|(with_reducible refine drw_i (by kernel_rfl))|simp -dsimp only[go_sem,seval, *,encT,encK,findNP,findND,hkI,hl,undef]|((with_reducible refine opK_c ?_);simp -dsimp only[go_sem,seval,encT,encK,findNP,findND,hkI,hl,undef];first|refine callK_r (by first|assumption|fail) (by first|exact .inl rfl|exact .inr rfl) ?_|(refine callK_i (by assumption) ?_ ?_ ?_;(solve|(repeat(first|exact DLe.refl _|exact DLe.nil _|(refine DLe.tup ?_)|(refine DLe.agg ?_ rfl)|exact trivial|(refine And.intro ?_ ?_))));(solve|exact .inl rfl|exact .inr rfl)))|(refine opK_M [0] (hfa) ?_ ?_ ?_ ?_ ?_ ?_;(solve|rfl|simp only[go_sem,seval,encT,findNP,findND]);(solve|rfl);(solve|decide);(solve|simp);(solve|simp only[go_sem,seval,lentOK,encT,findNP,findND]))|(refine opK_M [0] (hfb) ?_ ?_ ?_ ?_ ?_ ?_;(solve|rfl|simp only[go_sem,seval,encT,findNP,findND]);(solve|rfl);(solve|decide);(solve|simp);(solve|simp only[go_sem,seval,lentOK,encT,findNP,findND]))|omega|exact decide_eq_true (by omega)|exact DLe.refl _)
     all_goals exact DLe.refl _
    |some w=>
     rw[eb]at hfb hlb
     replace eb:=Lib.hid eb
     by_cases hab:l.a < l.b
     ·have hge:decide (l.a≥l.b)=false:=by simp;omega
      have hlt:lnkB n l=true:=by rw[hlb];simp[hab]
      clear hlb
      replace hlt:=Lib.hid hlt
      by_cases hk0:k=0
      ·have hkz:decide ((k:Int)>0)=false:=by simp;omega
       have hg:=hgood.out hlt.out (by rw[hrk,hk0];rfl)
       clear hrk
       replace hg:=Lib.hid hg
       replace hk0:=Lib.hid hk0
       replace hab:=Lib.hid hab
       repeat' (first|(with_reducible refine And.intro ?_ ?_)|(with_reducible refine gK_i (fun _=>?_) (fun _=>?_))|(with_reducible refine condS_i (fun _=>?_) (fun _=>?_))|(with_reducible refine drw_i (by kernel_rfl))|simp -dsimp only[go_sem,seval, *,encT,encK,findNP,findND,hkI,hwr,hl,hge,hkz,undef]|((with_reducible refine opK_c ?_);simp -dsimp only[go_sem,seval,encT,encK,findNP,findND,hkI,hwr,hl,hge,hkz,undef];first|refine callK_r (by first|assumption|fail) (by first|exact .inl rfl|exact .inr rfl) ?_|(refine callK_i (by assumption) ?_ ?_ ?_;(solve|(repeat(first|exact DLe.refl _|exact DLe.nil _|(refine DLe.tup ?_)|(refine DLe.agg ?_ rfl)|exact trivial|(refine And.intro ?_ ?_))));(solve|exact .inl rfl|exact .inr rfl)))|(refine opK_M [0] (hfa) ?_ ?_ ?_ ?_ ?_ ?_;(solve|rfl|simp only[go_sem,seval,encT,findNP,findND]);(solve|rfl);(solve|decide);(solve|simp);(solve|simp only[go_sem,seval,lentOK,encT,findNP,findND]))|(refine opK_M [0] (hfb) ?_ ?_ ?_ ?_ ?_ ?_;(solve|rfl|simp only[go_sem,seval,encT,findNP,findND]);(solve|rfl);(solve|decide);(solve|simp);(solve|simp only[go_sem,seval,lentOK,encT,findNP,findND]))|omega|exact decide_eq_true (by omega)|exact DLe.refl _)
       exact hC _ _ hg.out (weak_forget _ (by simp) (by(try simp only[encT]);rfl) se bl bl)
      ·obtain⟨j,hj⟩:∃j,k=j+1:=⟨k - 1,by omega⟩
       obtain⟨y,hy⟩:∃y,n.links[j]? =some y:=⟨_,List.getElem?_eq_getElem (by omega)⟩
       have hkz:decide ((k:Int)>0)=true:=by simp;omega
       have hw1:IntKind.i64.wrap ((k:Int) - 1)=(j:Int):=by rw[IntKind.wrap_i64];omega
       have hjI:(j:Int) < (n.links.length:Int):=by omega
       have hor:=order_p y l
       rw[hj,last_take hy]at hrk
       simp only at hrk
       rw[←hj]at hrk
       replace hj:=Lib.hid hj
       replace hk0:=Lib.hid hk0
       replace hab:=Lib.hid hab
       by_cases ho:ordK y l < 0
       ·have hg:=hgood.out hlt.out (by rw[hrk];simpa using ho)
        have hob:decide (ordK y l≥0)=false:=by simpa using ho
        clear hrk
        replace hg:=Lib.hid hg
        replace ho:=Lib.hid ho
        generalize ordK y l=O at*
        repeat' (first|(with_reducible refine And.intro ?_ ?_)|(with_reducible refine gK_i (fun _=>?_) (fun _=>?_))|(with_reducible refine condS_i (fun _=>?_) (fun _=>?_))|(with_reducible refine drw_i (by kernel_rfl))|simp -dsimp only[go_sem,seval, *,encT,encK,findNP,findND,hkI,hwr,hl,hge,hkz,hw1,hjI,hy,hob,undef]|((with_reducible refine opK_c ?_);simp -dsimp only[go_sem,seval,encT,encK,findNP,findND,hkI,hwr,hl,hge,hkz,hw1,hjI,hy,hob,undef];first|refine callK_r (by first|assumption|exact hor) (by first|exact .inl rfl|exact .inr rfl) ?_|(refine callK_i (by assumption) ?_ ?_ ?_;(solve|(repeat(first|exact DLe.refl _|exact DLe.nil _|(refine DLe.tup ?_)|(refine DLe.agg ?_ rfl)|exact trivial|(refine And.intro ?_ ?_))));(solve|exact .inl rfl|exact .inr rfl)))|(refine opK_M [0] (hfa) ?_ ?_ ?_ ?_ ?_ ?_;(solve|rfl|simp only[go_sem,seval,encT,findNP,findND]);(solve|rfl);(solve|decide);(solve|simp);(solve|simp only[go_sem,seval,lentOK,encT,findNP,findND]))|(refine opK_M [0] (hfb) ?_ ?_ ?_ ?_ ?_ ?_;(solve|rfl|simp only[go_sem,seval,encT,findNP,findND]);(solve|rfl);(solve|decide);(solve|simp);(solve|simp only[go_sem,seval,lentOK,encT,findNP,findND]))|omega|exact decide_eq_true (by omega)|exact DLe.refl _)
        exact hC _ _ hg.out (weak_forget _ (by simp) (by(try simp only[encT]);rfl) se bl bl)
       ·have hr:R=1:=hbad2.out (by rw[hrk];simpa using ho)
        have hob:decide (ordK y l≥0)=true:=by simpa using ho
        rw[hr]
        clear hrk hr
        replace ho:=Lib.hid ho
        generalize ordK y l=O at*
        repeat' (first|(with_reducible refine And.intro ?_ ?_)|(with_reducible refine gK_i (fun _=>?_) (fun _=>?_))|(with_reducible refine condS_i (fun _=>?_) (fun _=>?_))|(with_reducible refine drw_i (by kernel_rfl))|simp -dsimp only[go_sem,seval, *,encT,encK,findNP,findND,hkI,hwr,hl,hge,hkz,hw1,hjI,hy,hob,undef]|((with_reducible refine opK_c ?_);simp -dsimp only[go_sem,seval,encT,encK,findNP,findND,hkI,hwr,hl,hge,hkz,hw1,hjI,hy,hob,undef];first|refine callK_r (by first|assumption|exact hor) (by first|exact .inl rfl|exact .inr rfl) ?_|(refine callK_i (by assumption) ?_ ?_ ?_;(solve|(repeat(first|exact DLe.refl _|exact DLe.nil _|(refine DLe.tup ?_)|(refine DLe.agg ?_ rfl)|exact trivial|(refine And.intro ?_ ?_))));(solve|exact .inl rfl|exact .inr rfl)))|(refine opK_M [0] (hfa) ?_ ?_ ?_ ?_ ?_ ?_;(solve|rfl|simp only[go_sem,seval,encT,findNP,findND]);(solve|rfl);(solve|decide);(solve|simp);(solve|simp only[go_sem,seval,lentOK,encT,findNP,findND]))|(refine opK_M [0] (hfb) ?_ ?_ ?_ ?_ ?_ ?_;(solve|rfl|simp only[go_sem,seval,encT,findNP,findND]);(solve|rfl);(solve|decide);(solve|simp);(solve|simp only[go_sem,seval,lentOK,encT,findNP,findND]))|omega|exact decide_eq_true (by omega)|exact DLe.refl _)
        all_goals exact DLe.refl _
     ·have hge:decide (l.a≥l.b)=true:=by simp;omega
      have hr:R=1:=hbad.out (by rw[hlb];simp;omega)
      rw[hr]
      clear hr hlb hrk
      replace hab:=Lib.hid hab
      repeat' (first|(with_reducible refine And.intro ?_ ?_)|(with_reducible refine gK_i (fun _=>?_) (fun _=>?_))|(with_reducible refine condS_i (fun _=>?_) (fun _=>?_))|(with_reducible refine drw_i (by kernel_rfl))|simp -dsimp only[go_sem,seval, *,encT,encK,findNP,findND,hkI,hl,hge,undef]|((with_reducible refine opK_c ?_);simp -dsimp only[go_sem,seval,encT,encK,findNP,findND,hkI,hl,hge,undef];first|refine callK_r (by first|assumption|fail) (by first|exact .inl rfl|exact .inr rfl) ?_|(refine callK_i (by assumption) ?_ ?_ ?_;(solve|(repeat(first|exact DLe.refl _|exact DLe.nil _|(refine DLe.tup ?_)|(refine DLe.agg ?_ rfl)|exact trivial|(refine And.intro ?_ ?_))));(solve|exact .inl rfl|exact .inr rfl)))|(refine opK_M [0] (hfa) ?_ ?_ ?_ ?_ ?_ ?_;(solve|rfl|simp only[go_sem,seval,encT,findNP,findND]);(solve|rfl);(solve|decide);(solve|simp);(solve|simp only[go_sem,seval,lentOK,encT,findNP,findND]))|(refine opK_M [0] (hfb) ?_ ?_ ?_ ?_ ?_ ?_;(solve|rfl|simp only[go_sem,seval,encT,findNP,findND]);(solve|rfl);(solve|decide);(solve|simp);(solve|simp only[go_sem,seval,lentOK,encT,findNP,findND]))|omega|exact decide_eq_true (by omega)|exact DLe.refl _)
      all_goals exact DLe.refl _
  ·intro hJ C
   rw[List.take_length]at hJ
   have hpe:=peace_p n (by omega) (by omega) (fun v hv=>by have:=(vpcOK_of (hI.out.1 v hv)).n4;omega) (fun l hl=>by
    have:=hJ.1 l hl
    unfold lnkB at this
    simp only[Bool.and_eq_true]at this
    exact⟨find_ids this.1,find_ids this.2.1⟩)
   have hr:R=if peaceN n=true then 0 else 1:=by
    rw[hR.out]
    split
    ·rename_i hp
     exact chkT_zero hno hvB.out (by rw[List.all_eq_true];exact hJ.1) hJ.2 hp
    ·rename_i hp
     exact chkT_one hno (.inr (.inr (.inr (by simpa using hp))))
   rw[hr]
   clear hr
   replace hJ:=Lib.hid hJ
   cases hp:peaceN n with
   |true=>
    rw[hp]at hpe
    replace hp:=Lib.hid hp
    exact wk0
    all_goals exact DLe.refl _
   |false=>
    rw[hp]at hpe
    replace hp:=Lib.hid hp
    exact wk0
    all_goals exact DLe.refl _
structure NetOK (n:Net):Prop where
 n6:n.vpcs.length≤6
 n12:n.links.length≤12
 vp:∀v∈n.vpcs,chkV v=0
 rise:n.vpcs.Pairwise fun a b=>a.id < b.id
 lk:∀l∈n.links,lnkB n l=true
 rk:risK n.links=true
 pe:peaceN n=true
theorem netOK {n:Net}:chkT n=0↔NetOK n:=by
 constructor
 ·intro h
  unfold chkT at h
  split at h
  ·cases h
  ·rename_i h0
   split at h
   ·rename_i h1
    simp only[Bool.and_eq_true]at h1
    have:=vpcsB_take h1.1 n.vpcs.length
    rw[List.take_length]at this
    exact⟨by omega,by omega,this.1,this.2,by simpa using h1.2.1,h1.2.2.1,h1.2.2.2⟩
   ·cases h
 ·rintro⟨a,b,c,d,e,f,g⟩
  exact chkT_zero (by omega) (vpcsB_of c d) (by simpa using e) f g
theorem NetOK.ids {n:Net}(h:NetOK n):∀l∈n.links,l.a∈n.vpcs.map (·.id)∧l.b∈n.vpcs.map (·.id):=fun l hl=>by
 have:=h.lk l hl
 unfold lnkB at this
 simp only[Bool.and_eq_true]at this
 exact⟨find_ids this.1,find_ids this.2.1⟩
theorem idxf_Pool {α:Type}{enc:α→List D}(henc:∀x,(enc x).length=9)(p:α→Bool)(l:List α)(g:Nat)(caps:List D)(hl:l.length≤1000000000)(hc:∀x∈l,PSpec Tryz.prog g (.agg (enc x)::caps) (.v (.bool (p x)))):
 PSpec Tryz.prog 199 [.sl 9 (l.map enc),.clo g caps] (.v (.int .i64 (idxI p l))):=by
 refine pj Tryz.func199 Tryz.ntmps199 Tryz.results199 ?_
 refine wk1 ?_<;>intros
 refine loopG tab_ok mixed (fun m e h=>∃k:Nat,k≤l.length∧(∀x∈l.take k,p x=false)∧m=l.length - k∧e=[(8,.d (.v (.int .i64 k))),(7,.d (.v (.int .i64 l.length))),(4,.d (.v (.int .i64 0))),(1,.d (.clo g caps)),(0,.d (.sl 9 (l.map enc)))]∧h=[]) _ _ _ ⟨0,Nat.zero_le _,by simp,rfl,rfl,rfl⟩ ?_ ?_
 ·exact weak_forget [] (by simp) rfl ⟨rfl,rfl,rfl,rfl,rfl,trivial⟩ bl bl
 ·rintro m e h ⟨k,hk,hno,rfl,rfl,rfl⟩ CL hCL
  by_cases hlt:k < l.length
  ·obtain⟨x,hx⟩:∃x,l[k]? =some x:=⟨_,List.getElem?_eq_getElem hlt⟩
   have hltI:(k:Int) < (l.length:Int):=by omega
   have hwr:=wi k (by omega)
   have hlen:=henc x
   have htk:(enc x).take 9=enc x:=List.take_of_length_le (by omega)
   have hcx:=hc x (List.mem_of_getElem? hx)
   cases hp:p x with
   |false=>
    rw[hp]at hcx
    refine wk1 ?_<;>intros
    refine hCL _ _ _ _ _ ?_ ⟨k+1,hlt,?_,rfl,rfl,rfl⟩ (weak_forget [] (by simp) rfl ⟨rfl,rfl,rfl,rfl,rfl,trivial⟩ bl bl)
    ·omega
    ·intro y hy
     rw[take_snoc hx]at hy
     rcases List.mem_append.1 hy with hy|hy
     ·exact hno y hy
     ·rw[List.mem_singleton]at hy;rw[hy];exact hp
   |true=>
    rw[hp]at hcx
    have hidx:idxI p l=k:=idxI_some hx hp hno
    exact wk0
    all_goals rw[hidx]
    all_goals exact DLe.refl _
  ·obtain rfl:k=l.length:=by omega
   rw[List.take_length]at hno
   refine wk1 ?_<;>intros
   all_goals rw[idxI_none hno]
   all_goals exact DLe.refl _
theorem cntf_Pool {α:Type}{enc:α→List D}(henc:∀x,(enc x).length=9)(p:α→Bool)(l:List α)(g:Nat)(caps:List D)(hl:l.length≤1000000000)(hc:∀x∈l,PSpec Tryz.prog g (.agg (enc x)::caps) (.v (.bool (p x)))):
 PSpec Tryz.prog 117 [.sl 9 (l.map enc),.clo g caps] (.v (.bool (l.any p))):=by
 have hi:=idxf_Pool henc p l g caps hl hc
 have hany:=idxI_any p l
 refine pj Tryz.func117 Tryz.ntmps117 Tryz.results117 ?_
 exact wk0
 all_goals exact DLe.refl _
theorem idxf_Lease {α:Type}{enc:α→List D}(henc:∀x,(enc x).length=5)(p:α→Bool)(l:List α)(g:Nat)(caps:List D)(hl:l.length≤1000000000)(hc:∀x∈l,PSpec Tryz.prog g (.agg (enc x)::caps) (.v (.bool (p x)))):
 PSpec Tryz.prog 124 [.sl 5 (l.map enc),.clo g caps] (.v (.int .i64 (idxI p l))):=by
 refine pj Tryz.func124 Tryz.ntmps124 Tryz.results124 ?_
 refine wk1 ?_<;>intros
 refine loopG tab_ok mixed (fun m e h=>∃k:Nat,k≤l.length∧(∀x∈l.take k,p x=false)∧m=l.length - k∧e=[(8,.d (.v (.int .i64 k))),(7,.d (.v (.int .i64 l.length))),(4,.d (.v (.int .i64 0))),(1,.d (.clo g caps)),(0,.d (.sl 5 (l.map enc)))]∧h=[]) _ _ _ ⟨0,Nat.zero_le _,by simp,rfl,rfl,rfl⟩ ?_ ?_
 ·exact weak_forget [] (by simp) rfl ⟨rfl,rfl,rfl,rfl,rfl,trivial⟩ bl bl
 ·rintro m e h ⟨k,hk,hno,rfl,rfl,rfl⟩ CL hCL
  by_cases hlt:k < l.length
  ·obtain⟨x,hx⟩:∃x,l[k]? =some x:=⟨_,List.getElem?_eq_getElem hlt⟩
   have hltI:(k:Int) < (l.length:Int):=by omega
   have hwr:=wi k (by omega)
   have hlen:=henc x
   have htk:(enc x).take 5=enc x:=List.take_of_length_le (by omega)
   have hcx:=hc x (List.mem_of_getElem? hx)
   cases hp:p x with
   |false=>
    rw[hp]at hcx
    refine wk1 ?_<;>intros
    refine hCL _ _ _ _ _ ?_ ⟨k+1,hlt,?_,rfl,rfl,rfl⟩ (weak_forget [] (by simp) rfl ⟨rfl,rfl,rfl,rfl,rfl,trivial⟩ bl bl)
    ·omega
    ·intro y hy
     rw[take_snoc hx]at hy
     rcases List.mem_append.1 hy with hy|hy
     ·exact hno y hy
     ·rw[List.mem_singleton]at hy;rw[hy];exact hp
   |true=>
    rw[hp]at hcx
    have hidx:idxI p l=k:=idxI_some hx hp hno
    exact wk0
    all_goals rw[hidx]
    all_goals exact DLe.refl _
  ·obtain rfl:k=l.length:=by omega
   rw[List.take_length]at hno
   refine wk1 ?_<;>intros
   all_goals rw[idxI_none hno]
   all_goals exact DLe.refl _
theorem cntf_Lease {α:Type}{enc:α→List D}(henc:∀x,(enc x).length=5)(p:α→Bool)(l:List α)(g:Nat)(caps:List D)(hl:l.length≤1000000000)(hc:∀x∈l,PSpec Tryz.prog g (.agg (enc x)::caps) (.v (.bool (p x)))):
 PSpec Tryz.prog 92 [.sl 5 (l.map enc),.clo g caps] (.v (.bool (l.any p))):=by
 have hi:=idxf_Lease henc p l g caps hl hc
 have hany:=idxI_any p l
 refine pj Tryz.func92 Tryz.ntmps92 Tryz.results92 ?_
 exact wk0
 all_goals exact DLe.refl _
theorem less_p (a b:Int):PSpec Tryz.prog 228 [.v (.int .i64 a),.v (.int .i64 b)] (.v (.bool (decide (a < b)))):=by
 cases h:decide (a < b)with
 |true=>
  refine pj Tryz.func228 Tryz.ntmps228 Tryz.results228 ?_
  have z1z:=isNaN_p a
  have z2z:=isNaN_p b
  exact wk0
  all_goals exact DLe.refl _
 |false=>
  refine pj Tryz.func228 Tryz.ntmps228 Tryz.results228 ?_
  have z1z:=isNaN_p a
  have z2z:=isNaN_p b
  exact wk0
  all_goals exact DLe.refl _
theorem bsrf_Pool {α:Type}{enc:α→List D}(henc:∀x,(enc x).length=9)(key:α→Int)(l:List α)(t:Int)(g:Nat)(caps:List D)(hl:l.length≤1000000000)(hs:l.Pairwise fun a b=>key a < key b)(hc:∀x∈l,PSpec Tryz.prog g (.agg (enc x):: .v (.int .i64 t)::caps) (.v (.int .i64 (cmpI (key x) t)))):
 PSpec Tryz.prog 197 [.sl 9 (l.map enc),.v (.int .i64 t),.clo g caps] (.tup [.v (.int .i64 (lbN key t l)),.v (.bool (lbB key t l))]):=by
 refine pj Tryz.func197 Tryz.ntmps197 Tryz.results197 ?_
 refine wk1 ?_<;>intros
 refine loopG tab_ok mixed (fun m e h=>∃i j:Nat,i≤j∧j≤l.length∧(∀q (hq:q < l.length),q < i→key l[q] < t)∧(∀q (hq:q < l.length),j≤q→t≤key l[q])∧m=j - i∧
  e=[(10,.d (.v (.int .i64 j))),(9,.d (.v (.int .i64 i))),(8,.d (.v (.int .i64 l.length))),(7,.d (.v (.bool false))),(6,.d (.v (.int .i64 0))),(2,.d (.clo g caps)),(1,.d (.v (.int .i64 t))),(0,.d (.sl 9 (l.map enc)))]∧h=[]) _ _ _ ⟨0,l.length,Nat.zero_le _,Nat.le_refl _,fun q hq h=>absurd h (Nat.not_lt_zero _),fun q hq h=>by omega,rfl,rfl,rfl⟩ ?_ ?_
 ·exact weak_forget [] (by simp) rfl ⟨rfl,rfl,rfl,rfl,rfl,rfl,rfl,rfl,trivial⟩ bl bl
 ·rintro m e h ⟨i,j,hij,hj,hlo,hhi,rfl,rfl,rfl⟩ CL hCL
  by_cases hlt:i < j
  ·obtain⟨q,hq⟩:∃q,q=(i+j) / 2:=⟨_,rfl⟩
   have hql:q < l.length:=by omega
   obtain⟨x,hx⟩:∃x,l[q]? =some x:=⟨_,List.getElem?_eq_getElem hql⟩
   have hxe:l[q]=x:=by rw[List.getElem?_eq_getElem hql]at hx;exact Option.some.inj hx
   have hltI:(i:Int) < (j:Int):=by omega
   have hw1:IntKind.i64.wrap ((i:Int)+(j:Int))=((i+j:Nat):Int):=by rw[IntKind.wrap_i64];omega
   have hw2:IntKind.u64.wrap ((i+j:Nat):Int)=((i+j:Nat):Int):=by rw[wrap_u64];omega
   have hsh:(((i+j:Nat):Int)).fdiv (2 ^ min 1 64)=(q:Int):=by
    rw[hq,show (min 1 64:Nat)=1 from rfl,Int.pow_succ,Int.pow_zero,Int.one_mul,Int.fdiv_eq_ediv_of_nonneg _ (by omega)]
    omega
   have hw3:IntKind.i64.wrap (q:Int)=(q:Int):=by rw[IntKind.wrap_i64];omega
   have hw4:=wi q (by omega)
   have hlen:=henc x
   have htk:(enc x).take 9=enc x:=List.take_of_length_le (by omega)
   have hcx:=hc x (List.mem_of_getElem? hx)
   have hcm:=cmpI_neg (key x) t
   have hqd:i≤q∧q < j:=by omega
   replace hq:=Lib.hid hq
   by_cases hk:key x < t
   ·have hkI:decide (key x < t)=true:=by simpa using hk
    refine wk1 ?_<;>intros
    refine hCL _ _ _ _ _ ?_ ⟨q+1,j,by omega,hj,?_,hhi,rfl,rfl,rfl⟩ (weak_forget [] (by simp) rfl ⟨rfl,rfl,rfl,rfl,rfl,rfl,rfl,rfl,trivial⟩ bl bl)
    ·omega
    ·intro q' hq' hlt'
     rcases Nat.lt_or_ge q' q with h1|h1
     ·have:=List.pairwise_iff_getElem.1 hs q' q hq' hql h1
      rw[hxe]at this;omega
     ·obtain rfl:q'=q:=by omega
      rw[hxe];exact hk
   ·have hkI:decide (key x < t)=false:=by simpa using hk
    refine wk1 ?_<;>intros
    refine hCL _ _ _ _ _ ?_ ⟨i,q,by omega,by omega,hlo,?_,rfl,rfl,rfl⟩ (weak_forget [] (by simp) rfl ⟨rfl,rfl,rfl,rfl,rfl,rfl,rfl,rfl,trivial⟩ bl bl)
    ·omega
    ·intro q' hq' hlt'
     rcases Nat.lt_or_ge q q' with h1|h1
     ·have:=List.pairwise_iff_getElem.1 hs q q' hql hq' h1
      rw[hxe]at this;omega
     ·obtain rfl:q'=q:=by omega
      rw[hxe];omega
  ·obtain rfl:i=j:=by omega
   have hlb:=lbN_eq hj hlo hhi
   have hlbB:lbB key t l=match l[i]? with|some x=>key x==t|none=>false:=by unfold lbB;rw[hlb];all_goals(cases l[i]? <;>rfl)
   replace hlb:=Lib.hid hlb
   replace hlbB:=Lib.hid hlbB
   by_cases hin:i < l.length
   ·obtain⟨x,hx⟩:∃x,l[i]? =some x:=⟨_,List.getElem?_eq_getElem hin⟩
    have hinI:decide ((i:Int) < (l.length:Int))=true:=by simpa using hin
    have hlen:=henc x
    have htk:(enc x).take 9=enc x:=List.take_of_length_le (by omega)
    have hcx:=hc x (List.mem_of_getElem? hx)
    have hcz:=cmpI_zero (key x) t
    refine wk1 ?_<;>intros
    all_goals rw[hlbB.out,hx,hlb.out]
    all_goals exact DLe.refl _
   ·have hinI:decide ((i:Int) < (l.length:Int))=false:=by simpa using hin
    refine wk1 ?_<;>intros
    all_goals rw[hlbB.out,hlb.out,List.getElem?_eq_none (by omega)]
    all_goals exact DLe.refl _
theorem bsrf_Lease {α:Type}{enc:α→List D}(henc:∀x,(enc x).length=5)(key:α→Int)(l:List α)(t:Int)(g:Nat)(caps:List D)(hl:l.length≤1000000000)(hs:l.Pairwise fun a b=>key a < key b)(hc:∀x∈l,PSpec Tryz.prog g (.agg (enc x):: .v (.int .i64 t)::caps) (.v (.int .i64 (cmpI (key x) t)))):
 PSpec Tryz.prog 202 [.sl 5 (l.map enc),.v (.int .i64 t),.clo g caps] (.tup [.v (.int .i64 (lbN key t l)),.v (.bool (lbB key t l))]):=by
 refine pj Tryz.func202 Tryz.ntmps202 Tryz.results202 ?_
 refine wk1 ?_<;>intros
 refine loopG tab_ok mixed (fun m e h=>∃i j:Nat,i≤j∧j≤l.length∧(∀q (hq:q < l.length),q < i→key l[q] < t)∧(∀q (hq:q < l.length),j≤q→t≤key l[q])∧m=j - i∧
  e=[(10,.d (.v (.int .i64 j))),(9,.d (.v (.int .i64 i))),(8,.d (.v (.int .i64 l.length))),(7,.d (.v (.bool false))),(6,.d (.v (.int .i64 0))),(2,.d (.clo g caps)),(1,.d (.v (.int .i64 t))),(0,.d (.sl 5 (l.map enc)))]∧h=[]) _ _ _ ⟨0,l.length,Nat.zero_le _,Nat.le_refl _,fun q hq h=>absurd h (Nat.not_lt_zero _),fun q hq h=>by omega,rfl,rfl,rfl⟩ ?_ ?_
 ·exact weak_forget [] (by simp) rfl ⟨rfl,rfl,rfl,rfl,rfl,rfl,rfl,rfl,trivial⟩ bl bl
 ·rintro m e h ⟨i,j,hij,hj,hlo,hhi,rfl,rfl,rfl⟩ CL hCL
  by_cases hlt:i < j
  ·obtain⟨q,hq⟩:∃q,q=(i+j) / 2:=⟨_,rfl⟩
   have hql:q < l.length:=by omega
   obtain⟨x,hx⟩:∃x,l[q]? =some x:=⟨_,List.getElem?_eq_getElem hql⟩
   have hxe:l[q]=x:=by rw[List.getElem?_eq_getElem hql]at hx;exact Option.some.inj hx
   have hltI:(i:Int) < (j:Int):=by omega
   have hw1:IntKind.i64.wrap ((i:Int)+(j:Int))=((i+j:Nat):Int):=by rw[IntKind.wrap_i64];omega
   have hw2:IntKind.u64.wrap ((i+j:Nat):Int)=((i+j:Nat):Int):=by rw[wrap_u64];omega
   have hsh:(((i+j:Nat):Int)).fdiv (2 ^ min 1 64)=(q:Int):=by
    rw[hq,show (min 1 64:Nat)=1 from rfl,Int.pow_succ,Int.pow_zero,Int.one_mul,Int.fdiv_eq_ediv_of_nonneg _ (by omega)]
    omega
   have hw3:IntKind.i64.wrap (q:Int)=(q:Int):=by rw[IntKind.wrap_i64];omega
   have hw4:=wi q (by omega)
   have hlen:=henc x
   have htk:(enc x).take 5=enc x:=List.take_of_length_le (by omega)
   have hcx:=hc x (List.mem_of_getElem? hx)
   have hcm:=cmpI_neg (key x) t
   have hqd:i≤q∧q < j:=by omega
   replace hq:=Lib.hid hq
   by_cases hk:key x < t
   ·have hkI:decide (key x < t)=true:=by simpa using hk
    refine wk1 ?_<;>intros
    refine hCL _ _ _ _ _ ?_ ⟨q+1,j,by omega,hj,?_,hhi,rfl,rfl,rfl⟩ (weak_forget [] (by simp) rfl ⟨rfl,rfl,rfl,rfl,rfl,rfl,rfl,rfl,trivial⟩ bl bl)
    ·omega
    ·intro q' hq' hlt'
     rcases Nat.lt_or_ge q' q with h1|h1
     ·have:=List.pairwise_iff_getElem.1 hs q' q hq' hql h1
      rw[hxe]at this;omega
     ·obtain rfl:q'=q:=by omega
      rw[hxe];exact hk
   ·have hkI:decide (key x < t)=false:=by simpa using hk
    refine wk1 ?_<;>intros
    refine hCL _ _ _ _ _ ?_ ⟨i,q,by omega,by omega,hlo,?_,rfl,rfl,rfl⟩ (weak_forget [] (by simp) rfl ⟨rfl,rfl,rfl,rfl,rfl,rfl,rfl,rfl,trivial⟩ bl bl)
    ·omega
    ·intro q' hq' hlt'
     rcases Nat.lt_or_ge q q' with h1|h1
     ·have:=List.pairwise_iff_getElem.1 hs q q' hql hq' h1
      rw[hxe]at this;omega
     ·obtain rfl:q'=q:=by omega
      rw[hxe];omega
  ·obtain rfl:i=j:=by omega
   have hlb:=lbN_eq hj hlo hhi
   have hlbB:lbB key t l=match l[i]? with|some x=>key x==t|none=>false:=by unfold lbB;rw[hlb];all_goals(cases l[i]? <;>rfl)
   replace hlb:=Lib.hid hlb
   replace hlbB:=Lib.hid hlbB
   by_cases hin:i < l.length
   ·obtain⟨x,hx⟩:∃x,l[i]? =some x:=⟨_,List.getElem?_eq_getElem hin⟩
    have hinI:decide ((i:Int) < (l.length:Int))=true:=by simpa using hin
    have hlen:=henc x
    have htk:(enc x).take 5=enc x:=List.take_of_length_le (by omega)
    have hcx:=hc x (List.mem_of_getElem? hx)
    have hcz:=cmpI_zero (key x) t
    refine wk1 ?_<;>intros
    all_goals rw[hlbB.out,hx,hlb.out]
    all_goals exact DLe.refl _
   ·have hinI:decide ((i:Int) < (l.length:Int))=false:=by simpa using hin
    refine wk1 ?_<;>intros
    all_goals rw[hlbB.out,hlb.out,List.getElem?_eq_none (by omega)]
    all_goals exact DLe.refl _
section
open Go.Proofs
section
variable {w:World}{b o:Nat}{c0 c1 c2 c3 c4 c5 c6 c7 c8:Value}
theorem cellsAt_2 (h:cellsAt w b o [c0,c1]):w.cell? ⟨b,o,none⟩=some c0∧w.cell? ⟨b,o+1,none⟩=some c1:=⟨h 0 (by simp),h 1 (by simp)⟩
end
theorem cellsAt_ext {w w':World}{b o:Nat}{cs:List Value}(hx:Ext w w')(h:cellsAt w b o cs):cellsAt w' b o cs:=fun j hj=>keepCell hx (h j hj)
theorem Sl.ext {α:Type}{A:Area}{w w':World}{k:Nat}{R:List Value→α→Prop}{ao:Option Addr}{cap:Nat}{l:List α}(h:Sl A w k R ao cap l)(hx:Ext w w'):Sl A w' k R ao cap l:=by
 refine⟨h.cap_le,h.cap_max,fun i hi=>?_⟩
 obtain⟨b,off,cs,h1,h2,h3,h4,h5⟩:=h.elem i hi
 exact⟨b,off,cs,h1,h2,h3,h4,cellsAt_ext hx h5⟩
theorem Sl.nil {α:Type}{A:Area}{w:World}{k:Nat}{R:List Value→α→Prop}{ao:Option Addr}{cap:Nat}(h:cap≤9223372036854775807):Sl A w k R ao cap ([]:List α):=
 ⟨Nat.zero_le _,h,fun i hi=>by simp at hi⟩
theorem Sl.take {α:Type}{A:Area}{w:World}{k:Nat}{R:List Value→α→Prop}{ao:Option Addr}{cap:Nat}{l:List α}(h:Sl A w k R ao cap l)(n:Nat):Sl A w k R ao cap (l.take n):=by
 refine⟨Nat.le_trans (List.length_take_le' n l) h.cap_le,h.cap_max,fun i hi=>?_⟩
 have hi':i < l.length:=by rw[List.length_take]at hi;omega
 obtain⟨b,off,cs,h1,h2,h3,h4,h5⟩:=h.elem i hi'
 exact⟨b,off,cs,h1,h2,h3,by rw[List.getElem_take];exact h4,h5⟩
theorem Sl.mono {α:Type}{A:Area}{w:World}{k:Nat}{R R':List Value→α→Prop}{ao:Option Addr}{cap:Nat}{l:List α}(h:Sl A w k R ao cap l)(hR:∀cs x,x∈l→R cs x→R' cs x):Sl A w k R' ao cap l:=by
 refine⟨h.cap_le,h.cap_max,fun i hi=>?_⟩
 obtain⟨b,off,cs,h1,h2,h3,h4,h5⟩:=h.elem i hi
 exact⟨b,off,cs,h1,h2,h3,hR _ _ (List.getElem_mem hi) h4,h5⟩
def idxOf {α:Type}(p:α→Bool)(l:List α):Int:=match l.findIdx? p with|some i=>(i:Int)|none=> -1
theorem idx_hit {α:Type}{p:α→Bool}{l:List α}{k:Nat}(hk:k < l.length)(hp:p l[k]=true)(hn:∀j (h:j < k),p (l[j]'(by omega))=false):idxOf p l=k:=by
 have:l.findIdx? p=some k:=by
  rw[List.findIdx?_eq_some_iff_getElem]
  exact⟨hk,hp,fun j hj=>by simp[hn j hj]⟩
 unfold idxOf;rw[this]
theorem idx_none {α:Type}{p:α→Bool}{l:List α}(hn:∀j (h:j < l.length),p l[j]=false):idxOf p l= -1:=by
 have:l.findIdx? p=none:=by
  rw[List.findIdx?_eq_none_iff]
  intro x hx
  obtain⟨j,hj,rfl⟩:=List.mem_iff_getElem.1 hx
  exact hn j hj
 unfold idxOf;rw[this]
theorem idx_any {α:Type}(p:α→Bool)(l:List α):decide (idxOf p l≥0)=l.any p:=by
 unfold idxOf
 cases h:l.findIdx? p with
 |none=>
  rw[List.findIdx?_eq_none_iff]at h
  have:l.any p=false:=by rw[List.any_eq_false];intro x hx;simp[h x hx]
  rw[this];rfl
 |some i=>
  rw[List.findIdx?_eq_some_iff_getElem]at h
  obtain⟨hi,hp,_⟩:=h
  have:l.any p=true:=by rw[List.any_eq_true];exact⟨l[i],List.getElem_mem hi,hp⟩
  rw[this];simp
def PredP {α:Type}(P:Program)(g:Nat)(lb:Array Value)(R:List Value→α→Prop)(p:α→Bool)(l:List α)(w:World):Prop:=
 ∀W,Ext w W→∀x∈l,∀cs,R cs x→Calls P g (#[.agg cs.toArray]++lb) W fun e w'=>e= .returned (.bool (p x))∧Ext W w'
end
section
open Go.Proofs
theorem indexFunc_P {α:Type}{A:Area}{R:List Value→α→Prop}(g:Nat)(lb:Array Value)(eg:∀args w,(callFunc g args).run Tryz.prog w= .ok (.enter g args) w)(p:α→Bool)(l:List α)(ao:Option Addr)(cap:Nat)(w:World)(h:Sl A w 2 R ao cap l)(hp:PredP Tryz.prog g lb R p l w):
 Calls Tryz.prog 179 #[.slice ao l.length cap,.func (.func g) #[] lb] w fun e w'=>e= .returned (.int .i64 (idxOf p l))∧Ext w w':=by
 have hcl:=h.cap_le
 have hcm:=h.cap_max
 obtain⟨r,hr⟩:∃r,r=idxOf p l:=⟨_,rfl⟩
 rw[←hr]
 replace hr:=Lib.hid hr
 replace hp:=Lib.hid hp
 go_enter Tryz.func179,Tryz.ntmps179
 go_wp2_with fail
 go_loopw [5,8] (fun _ s8 wr=>∃k:Nat,k≤l.length∧s8= .int .i64 k∧Hid (∀j (h:j < k) (h':j < l.length),p l[j]=false)∧Ext w wr) (fun _ s8 _=>l.length - (intOf s8).toNat)
 case atStart=>exact⟨0,Nat.zero_le _,rfl,Lib.hid (fun j hj=>absurd hj (Nat.not_lt_zero _)),Below.refl _ w⟩
 case round=>
  obtain⟨k,hk,rfl,hall,hx⟩:=hrel
  by_cases hlt:k < l.length
  ·have hltI:(k:Int) < (l.length:Int):=by omega
   obtain⟨b,off,cs,rfl,-,hlen,hR,hcs⟩:=h.elem k hlt
   have hcall:=hp.out wr hx l[k] (List.getElem_mem hlt) cs hR
   replace hcs:=cellsAt_ext hx hcs
   obtain⟨q,hq⟩:∃q,q=p l[k]:=⟨_,rfl⟩
   rw[←hq]at hcall
   replace hq:=Lib.hid hq
   clear h hR
   match cs,hlen with
   |[v0,v1],_=>
    obtain⟨k0,k1⟩:=cellsAt_2 hcs
    clear hcs
    replace hcall:=Lib.hid hcall
    cases q
    case true=>
     go_wp2_with fail
     refine hcall.out.mono ?_
     rintro e w1 ⟨rfl,hx1⟩
     go_wp2_with fail
     go_ret
     exact⟨ret_int (by rw[hr.out];exact(idx_hit hlt hq.out.symm fun j hj=>hall.out j hj (by omega)).symm),ext_trans hx hx1⟩
    case false=>
     go_wp2_with fail
     refine hcall.out.mono ?_
     rintro e w1 ⟨rfl,hx1⟩
     go_wp2_with fail
     go_roundw
     case rel=>exact⟨k+1,by omega,by go_num,Lib.hid (fun j hj hj'=>by
      rcases Nat.lt_or_eq_of_le (Nat.le_of_lt_succ hj)with h1|h1
      ·exact hall.out j h1 hj'
      ·subst h1;exact hq.out.symm),ext_trans hx hx1⟩
     case measure=>simp[intOf];omega
  ·have hltI:¬(k:Int) < (l.length:Int):=by omega
   obtain rfl:k=l.length:=by omega
   go_wp2_with fail
   go_ret
   exact⟨ret_int (by rw[hr.out];exact(idx_none fun j hj=>hall.out j hj hj).symm),hx⟩
theorem containsFunc_P {α:Type}{A:Area}{R:List Value→α→Prop}(g:Nat)(lb:Array Value)(eg:∀args w,(callFunc g args).run Tryz.prog w= .ok (.enter g args) w)(p:α→Bool)(l:List α)(ao:Option Addr)(cap:Nat)(w:World)(h:Sl A w 2 R ao cap l)(hp:PredP Tryz.prog g lb R p l w):
 Calls Tryz.prog 95 #[.slice ao l.length cap,.func (.func g) #[] lb] w fun e w'=>e= .returned (.bool (l.any p))∧Ext w w':=by
 have hc:=indexFunc_P g lb eg p l ao cap w h hp
 have ha:=idx_any p l
 obtain⟨r,hr⟩:∃r,r=idxOf p l:=⟨_,rfl⟩
 rw[←hr]at hc ha
 rw[←ha]
 clear hr ha h hp
 replace hc:=Lib.hid hc
 go_enter Tryz.func95,Tryz.ntmps95
 go_wp2_with fail
 refine hc.out.mono ?_
 rintro e w1 ⟨rfl,hx1⟩
 go_wp2_with fail
 go_ret
 exact⟨rfl,hx1⟩
end
section
open Go.Proofs
theorem index_P {A:Area}(v:Pfx)(l:List Pfx)(ao:Option Addr)(cap:Nat)(w:World)(h:Sl A w 2 Pfx.R ao cap l):
 Calls Tryz.prog 334 #[.slice ao l.length cap,.agg #[.int .i64 v.at_,.int .i64 v.len]] w fun e w'=>e= .returned (.int .i64 (idxOf (fun x=>decide (v=x)) l))∧Ext w w':=by
 have hcl:=h.cap_le
 have hcm:=h.cap_max
 obtain⟨r,hr⟩:∃r,r=idxOf (fun x=>decide (v=x)) l:=⟨_,rfl⟩
 rw[←hr]
 replace hr:=Lib.hid hr
 go_enter Tryz.func334,Tryz.ntmps334
 go_wp2_with fail
 go_loopw [5,8] (fun _ s8 wr=>∃k:Nat,k≤l.length∧s8= .int .i64 k∧Hid (∀j (h:j < k) (h':j < l.length),decide (v=l[j])=false)∧Ext (w.alloc (.cells #[.int .i64 v.at_,.int .i64 v.len] 32)) wr) (fun _ s8 _=>l.length - (intOf s8).toNat)
 case atStart=>exact⟨0,Nat.zero_le _,rfl,Lib.hid (fun j hj=>absurd hj (Nat.not_lt_zero _)),Below.refl _ _⟩
 case round=>
  obtain⟨k,hk,rfl,hall,hx⟩:=hrel
  by_cases hlt:k < l.length
  ·have hltI:(k:Int) < (l.length:Int):=by omega
   obtain⟨b,off,cs,rfl,-,hlen,hR,hcs⟩:=h.elem k hlt
   replace hcs:=cellsAt_ext hx (cellsAt_ext (ext_alloc _ _) hcs)
   unfold Pfx.R at hR
   subst hR
   obtain⟨k0,k1⟩:=cellsAt_2 hcs
   have p0:wr.cell? ⟨w.heap.size,0,none⟩=some (.int .i64 v.at_):=keepCell hx (by simp)
   have p1:wr.cell? ⟨w.heap.size,1,none⟩=some (.int .i64 v.len):=keepCell hx (by simp)
   have lb:=lt_of_cell k0
   have lp:=lt_of_cell p0
   obtain⟨y,hy⟩:∃y,y=l[k]:=⟨_,rfl⟩
   rw[←hy]at k0 k1
   replace hy:=Lib.hid hy
   clear hcs h
   by_cases e0:v.at_=y.at_
   ·by_cases e1:v.len=y.len
    ·have he:decide (v=y)=true:=by simp;cases v;cases y;simp_all
     replace he:=Lib.hid he
     go_wp2_with fail
     refine region_mix (by kernel_rfl) (by kernel_rfl) (fun _ _ d _ _ h=>by cases d<;>exact h) ?_
     repeat(first|((first|refine mix_skip_t rfl rfl rfl (by with_reducible rfl) ?_|refine mix_skip_f rfl rfl rfl (by with_reducible rfl) ?_|refine mix_skip_u rfl rfl rfl (by with_reducible rfl) ?_);simp only[Act.put,List.setIfInBounds_toArray,List.set_cons_zero,List.set_cons_succ])|(apply mix_take;(first|exact want_0 rfl|exact want_b rfl rfl rfl (by with_reducible rfl));intro wq hwq R hR;((have hcc:=(bcell hwq).1;(try simp only[World.size_alloc,World.size_setCell,World.size_drew,World.heap_drewN]at hcc));go_simp;first|exact hR|(fail));simp only[Act.put,List.setIfInBounds_toArray,List.set_cons_zero,List.set_cons_succ]))
     refine mix_nil ?_
     intro w2 hw2
     obtain⟨hcw2,hfw2⟩:=bcell hw2
     have hzw2:=bsize hw2
     (try simp only[World.size_alloc,World.size_setCell,World.size_drew,World.heap_drewN]at hcw2 hfw2 hzw2)
     go_wp2_with fail
     go_ret
     exact⟨ret_int (by rw[hr.out];exact(idx_hit hlt (by rw[←hy.out];exact he.out) fun j hj=>hall.out j hj (by omega)).symm),ext_trans (ext_alloc _ _) (ext_trans hx hw2)⟩
    ·have he:decide (v=y)=false:=by simp;intro h;exact e1 (by rw[h])
     replace he:=Lib.hid he
     go_wp2_with fail
     refine region_mix (by kernel_rfl) (by kernel_rfl) (fun _ _ d _ _ h=>by cases d<;>exact h) ?_
     repeat(first|((first|refine mix_skip_t rfl rfl rfl (by with_reducible rfl) ?_|refine mix_skip_f rfl rfl rfl (by with_reducible rfl) ?_|refine mix_skip_u rfl rfl rfl (by with_reducible rfl) ?_);simp only[Act.put,List.setIfInBounds_toArray,List.set_cons_zero,List.set_cons_succ])|(apply mix_take;(first|exact want_0 rfl|exact want_b rfl rfl rfl (by with_reducible rfl));intro wq hwq R hR;((have hcc:=(bcell hwq).1;(try simp only[World.size_alloc,World.size_setCell,World.size_drew,World.heap_drewN]at hcc));go_simp;first|exact hR|(fail));simp only[Act.put,List.setIfInBounds_toArray,List.set_cons_zero,List.set_cons_succ]))
     refine mix_nil ?_
     intro w2 hw2
     obtain⟨hcw2,hfw2⟩:=bcell hw2
     have hzw2:=bsize hw2
     (try simp only[World.size_alloc,World.size_setCell,World.size_drew,World.heap_drewN]at hcw2 hfw2 hzw2)
     go_wp2_with fail
     go_roundw
     case rel=>exact⟨k+1,by omega,by go_num,Lib.hid (fun j hj hj'=>by
      rcases Nat.lt_or_eq_of_le (Nat.le_of_lt_succ hj)with h1|h1
      ·exact hall.out j h1 hj'
      ·subst h1;rw[←hy.out];exact he.out),ext_trans hx hw2⟩
     case measure=>simp[intOf];omega
   ·have he:decide (v=y)=false:=by simp;intro h;exact e0 (by rw[h])
    replace he:=Lib.hid he
    go_wp2_with fail
    refine region_mix (by kernel_rfl) (by kernel_rfl) (fun _ _ d _ _ h=>by cases d<;>exact h) ?_
    repeat(first|((first|refine mix_skip_t rfl rfl rfl (by with_reducible rfl) ?_|refine mix_skip_f rfl rfl rfl (by with_reducible rfl) ?_|refine mix_skip_u rfl rfl rfl (by with_reducible rfl) ?_);simp only[Act.put,List.setIfInBounds_toArray,List.set_cons_zero,List.set_cons_succ])|(apply mix_take;(first|exact want_0 rfl|exact want_b rfl rfl rfl (by with_reducible rfl));intro wq hwq R hR;((have hcc:=(bcell hwq).1;(try simp only[World.size_alloc,World.size_setCell,World.size_drew,World.heap_drewN]at hcc));go_simp;first|exact hR|(fail));simp only[Act.put,List.setIfInBounds_toArray,List.set_cons_zero,List.set_cons_succ]))
    refine mix_nil ?_
    intro w2 hw2
    obtain⟨hcw2,hfw2⟩:=bcell hw2
    have hzw2:=bsize hw2
    (try simp only[World.size_alloc,World.size_setCell,World.size_drew,World.heap_drewN]at hcw2 hfw2 hzw2)
    go_wp2_with fail
    go_roundw
    case rel=>exact⟨k+1,by omega,by go_num,Lib.hid (fun j hj hj'=>by
     rcases Nat.lt_or_eq_of_le (Nat.le_of_lt_succ hj)with h1|h1
     ·exact hall.out j h1 hj'
     ·subst h1;rw[←hy.out];exact he.out),ext_trans hx hw2⟩
    case measure=>simp[intOf];omega
  ·have hltI:¬(k:Int) < (l.length:Int):=by omega
   obtain rfl:k=l.length:=by omega
   go_wp2_with fail
   go_ret
   exact⟨ret_int (by rw[hr.out];exact(idx_none fun j hj=>hall.out j hj hj).symm),ext_trans (ext_alloc _ _) hx⟩
theorem contains_P {A:Area}(v:Pfx)(l:List Pfx)(ao:Option Addr)(cap:Nat)(w:World)(h:Sl A w 2 Pfx.R ao cap l):
 Calls Tryz.prog 323 #[.slice ao l.length cap,.agg #[.int .i64 v.at_,.int .i64 v.len]] w fun e w'=>e= .returned (.bool (l.contains v))∧Ext w w':=by
 have hc:=fun W (h:Sl A W 2 Pfx.R ao cap l)=>index_P v l ao cap W h
 have ha:=idx_any (fun x=>decide (v=x)) l
 have hb:l.contains v=l.any (fun x=>decide (v=x)):=by
  rw[Bool.eq_iff_iff];simp
 rw[←hb]at ha
 obtain⟨r,hr⟩:∃r,r=idxOf (fun x=>decide (v=x)) l:=⟨_,rfl⟩
 rw[←hr]at ha
 simp only[←hr]at hc
 rw[←ha]
 clear hr ha hb
 replace hc:=Lib.hid hc
 go_enter Tryz.func323,Tryz.ntmps323
 go_wp2_with fail
 refine(hc.out _ (h.ext (ext_alloc _ _))).mono ?_
 rintro e w1 ⟨rfl,hx1⟩
 go_wp2_with fail
 go_ret
 exact⟨rfl,ext_trans (ext_alloc _ _) hx1⟩
end
structure EX (lo hi:Nat)(w w':World):Prop where
 os:w'.os=w.os
 tape:w'.tape=w.tape
 output:w'.output=w.output
 size:w.heap.size≤w'.heap.size
 block:∀b,b < w.heap.size→(b < lo∨hi≤b)→w'.heap[b]? =w.heap[b]?
 there:∀b o,b < w.heap.size→(w.cell? ⟨b,o,none⟩).isSome=true→(w'.cell? ⟨b,o,none⟩).isSome=true
 free:∀b o,b < w.heap.size→w'.frozen? ⟨b,o,none⟩=w.frozen? ⟨b,o,none⟩
theorem EX.refl {lo hi:Nat}(w:World):EX lo hi w w:=⟨rfl,rfl,rfl,Nat.le_refl _,fun _ _ _=>rfl,fun _ _ _ h=>h,fun _ _ _=>rfl⟩
theorem EX.trans {lo hi:Nat}{a b c:World}(h:EX lo hi a b)(k:EX lo hi b c):EX lo hi a c:=
 ⟨k.os.trans h.os,k.tape.trans h.tape,k.output.trans h.output,Nat.le_trans h.size k.size,fun i hi hx=>(k.block i (Nat.lt_of_lt_of_le hi h.size) hx).trans (h.block i hi hx),
  fun i o hi hs=>k.there i o (Nat.lt_of_lt_of_le hi h.size) (h.there i o hi hs),fun i o hi=>(k.free i o (Nat.lt_of_lt_of_le hi h.size)).trans (h.free i o hi)⟩
theorem EX.of {lo hi:Nat}{w w':World}(h:Ext w w'):EX lo hi w w':=
 ⟨h.os,h.tape,h.output,h.size,fun b hb _=>h.block b hb,fun b o hb hs=>by rw[(bcell h).1 b o hb];exact hs,fun b o hb=>(bcell h).2 b o hb⟩
theorem EX.mono {lo hi lo' hi':Nat}{w w':World}(h1:lo≤lo')(h2:hi'≤hi)(h:EX lo' hi' w w'):EX lo hi w w':=
 ⟨h.os,h.tape,h.output,h.size,fun b hb hx=>h.block b hb (by omega),h.there,h.free⟩
theorem EX.cell {lo hi:Nat}{w w':World}(h:EX lo hi w w'){b o:Nat}(hb:b < w.heap.size)(hx:b < lo∨hi≤b):w'.cell? ⟨b,o,none⟩=w.cell? ⟨b,o,none⟩:=
 World.cell?_of_block (w:=w) (h.block b hb hx)
theorem EX.setCell {lo hi:Nat}{w w':World}(h:EX lo hi w w'){b o:Nat}(h1:lo≤b)(h2:b < hi)(v:Value):EX lo hi w (w'.setCell ⟨b,o,none⟩ v):=by
 refine⟨h.os,h.tape,h.output,by rw[World.size_setCell];exact h.size,fun i hi hx=>(block_setCell_ne v (by show b≠i;omega)).trans (h.block i hi hx),fun i j hi hs=>?_,fun i j hi=>?_⟩
 ·have h3:=h.there i j hi hs
  obtain⟨u,hu⟩:=Option.isSome_iff_exists.1 h3
  obtain⟨u',hu'⟩:=cell?_setCell_some (w:=w') (p:=⟨b,o,none⟩) (x:=v) (q:=⟨i,j,none⟩) (v:=u) hu
  rw[hu'];rfl
 ·rw[World.frozen?_setCell];exact h.free i j hi
theorem EX.drew {lo hi:Nat}{w w':World}(h:EX lo hi w w'):EX lo hi w w'.drew:=h.trans (EX.of ((Below.refl _ _).drew))
theorem EX.bel {lo hi B:Nat}{a w w':World}(h:Bel B a w)(hx:EX lo hi w w')(hB:B≤lo):Bel B a w':=
 ⟨h.bel.trans ⟨hx.os,hx.tape,hx.output,hx.size,fun k hk=>hx.block k (Nat.lt_of_lt_of_le hk h.le) (.inl (Nat.lt_of_lt_of_le hk hB))⟩,Nat.le_trans h.le hx.size⟩
theorem EX.some {lo hi:Nat}{w w':World}(h:EX lo hi w w'){b o:Nat}{v:Value}(hc:w.cell? ⟨b,o,none⟩=some v):∃u,w'.cell? ⟨b,o,none⟩=some u:=by
 have:=h.there b o (lt_of_cell hc) (by rw[hc];rfl)
 exact Option.isSome_iff_exists.1 this
theorem EX.lo {lo hi:Nat}{w w':World}(h:EX lo hi w w')(hl:lo≤w.heap.size):∀b o,b < lo→w'.cell? ⟨b,o,none⟩=w.cell? ⟨b,o,none⟩:=fun b o hb=>h.cell (by omega) (.inl hb)
theorem EX.hi {lo hi:Nat}{w w':World}(h:EX lo hi w w'):∀b o,hi≤b→b < w.heap.size→w'.cell? ⟨b,o,none⟩=w.cell? ⟨b,o,none⟩:=fun b o hb h2=>h.cell h2 (.inr hb)
section
variable {P:Program}{ops:Array Oper}{Q:Exit→Act→World→Prop}
def GX (P:Program)(ops:Array Oper)(Q:Exit→Act→World→Prop):Nat→Array Bool→Act→Nat→Nat→World→Prop
 |0,listed,a,lo,hi,W=>Region.ready .any ops listed=[]∧∀w,EX lo hi W w→Q .normal a w
 |fuel+1,listed,a,lo,hi,W=>∀w,EX lo hi W w→(Region.ready .any ops listed=[]→Q .normal a w)∧
  ∀i∈Region.ready .any ops listed,wpOp P ops Q i (fun a' w'=>EX lo hi w w'∧∃lo' hi',lo≤lo'∧hi'≤hi∧GX P ops Q fuel (listed.setIfInBounds i true) a' lo' hi' w') a w
theorem GX.world:∀{fuel:Nat}{listed:Array Bool}{a:Act}{lo hi:Nat}{W W':World},EX lo hi W W'→GX P ops Q fuel listed a lo hi W→GX P ops Q fuel listed a lo hi W'
 |0,_,_,_,_,_,_,hx,h=>⟨h.1,fun w hw=>h.2 w (hx.trans hw)⟩
 |_+1,_,_,_,_,_,_,hx,h=>fun w hw=>h w (hx.trans hw)
theorem GX.any:∀{fuel:Nat}{listed:Array Bool}{a:Act}{lo hi:Nat}{W:World},GX P ops Q fuel listed a lo hi W→wpAny P .any ops Q fuel listed a W
 |0,_,_,_,_,_,h=>⟨h.1,h.2 _ (EX.refl _)⟩
 |_+1,_,_,_,_,W,h=>⟨(h W (EX.refl _)).1,fun i hi=>wpOp_mono (fun _ _ ⟨_,_,_,_,_,h'⟩=>GX.any h') ((h W (EX.refl _)).2 i hi)⟩
def QX (P:Program)(ops:Array Oper)(lo hi:Nat)(W:World)(o:Oper)(v:Value)(a:Act):Prop:=
 (Region.wanted o (yielded ops a.tmps)=true∧∀w,EX lo hi W w→o.quietAt P a (Ext w) w v)∨
 (Region.wanted o (yielded ops a.tmps)=false∧v=undef)
theorem QX.world {lo hi lo' hi':Nat}{W W':World}{o:Oper}{v:Value}{a:Act}(h1:lo≤lo')(h2:hi'≤hi)(hx:EX lo hi W W')(h:QX P ops lo hi W o v a):QX P ops lo' hi' W' o v a:=
 h.imp (fun⟨g1,g2⟩=>⟨g1,fun w hw=>g2 w (hx.trans (hw.mono h1 h2))⟩) id
theorem QX.of_same {lo hi:Nat}{W:World}{o:Oper}{v:Value}{a a':Act}(hy:QX P ops lo hi W o v a)(he:execOp a'.eval o=execOp a.eval o)
 (hw:Region.wanted o (yielded ops a'.tmps)=Region.wanted o (yielded ops a.tmps)):QX P ops lo hi W o v a':=by
 unfold QX Oper.quietAt at*
 rw[he,hw]
 exact hy
theorem QX.wpOp {lo hi:Nat}{W:World}{i:Nat}{o:Oper}{v:Value}{a:Act}(hi':ops[i]? =some o)(hy:QX P ops lo hi W o v a){K:Act→World→Prop}{w:World}(hw:EX lo hi W w)(h:∀w',Ext w w'→K (a.put o.dst v) w'):wpOp P ops Q i K a w:=by
 unfold Go.wpOp
 simp only[hi']
 rcases hy with⟨hwa,hv⟩|⟨hwa,rfl⟩
 ·simp only[hwa,if_true]
  left
  have h3:=hv w hw
  unfold Oper.quietAt at h3
  unfold Oper.wp
  generalize (execOp a.eval o).run P w=r at*
  cases r with
  |ok n w'=>
   cases n<;>simp only[Oper.quietUpon]at h3<;>simp only[Oper.upon]
   case value u=>
    obtain⟨e1,e2⟩:=h3
    rw[e1,e2]
    exact h _ (Below.refl _ _)
   case skip=>
    obtain⟨e1,e2⟩:=h3
    rw[e1,←e2]
    exact h _ (Below.refl _ _)
   case enter f args=>
    obtain⟨e1,hc⟩:=h3
    rw[e1]
    exact hc.mono fun e w'' ⟨he,hw''⟩=>by subst he;exact h _ hw''
  |halt x w'=>simp only[Oper.quietUpon]at h3
 ·simp only[hwa,Bool.false_eq_true,if_false]
  exact h w (Below.refl _ _)
theorem wpOp_putX {lo hi:Nat}{W:World}{j:Nat}{oi oj:Oper}{v:Value}(hj:ops[j]? =some oj)(hap:oi.apart ops oj=true)
 (hsi:∀cs b,oi.op≠ .select cs b) (hsj:∀cs b,oj.op≠ .select cs b)
 (hQ:∀c a w,Q (.panic c) (a.put oi.dst v) w→Q (.panic c) a w) {K:Act→World→Prop}{a:Act}{w:World}
 (hy:QX P ops lo hi W oi v a) (h:wpOp P ops Q j K (a.put oi.dst v) w):
 wpOp P ops Q j (fun a' w'=>QX P ops lo hi W oi v a'∧K (a'.put oi.dst v) w') a w:=by
 obtain⟨h1,h2,h3⟩:=Oper.apart_spec hap
 have keep:∀(a:Act),QX P ops lo hi W oi v a→∀u,QX P ops lo hi W oi v (a.put oj.dst u):=fun a hy u=>
  hy.of_same (execOp_put oi hsi a oj.dst u h3) (wanted_put oi a oj.dst u h3)
 have keepD:∀d,QX P ops lo hi W oi v {a with defers:=d::a.defers}:=fun d=>hy.of_same rfl rfl
 unfold wpOp at*
 simp only[hj]at*
 rw[wanted_put oj a oi.dst v h1]at h
 split
 ·rename_i hw
  simp only[hw,if_true]at h
  rcases h with h|⟨hasks,hlets⟩
  case inr=>exact .inr ⟨by unfold Oper.asks at*;rw[execOp_put oj hsj a oi.dst v h1]at hasks;exact hasks,hlets⟩
  refine .inl ?_
  unfold Oper.wp at*
  rw[execOp_put oj hsj a oi.dst v h1]at h
  generalize (execOp a.eval oj).run P w=r at*
  cases r with
  |ok n w'=>
   cases n<;>simp only[Oper.upon]at h ⊢
   case value u=>exact⟨keep a hy u,by rw[←Act.put_comm a v u h2];exact h⟩
   case skip=>exact⟨keep a hy _,by rw[←Act.put_comm a v undef h2];exact h⟩
   case defer d=>
    refine⟨keep _ (keepD d) _,?_⟩
    rw[←Act.put_comm _ v undef h2,←Act.put_defers]
    exact h
   case enter f args=>
    refine Calls.mono h fun e w'' he=>?_
    cases e with
    |returned u=>exact⟨keep a hy u,by rw[←Act.put_comm a v u h2];exact he⟩
    |panicked c=>exact hQ _ _ _ he
    |outgrown=>exact he
   case row row args=>exact Rows.mono h fun u w'' he=>⟨keep a hy u,by rw[←Act.put_comm a v u h2];exact he⟩
  |halt x w'=>
   cases x<;>simp only[Oper.upon]at h ⊢
   case panic u=>exact hQ _ _ _ h
 ·rename_i hw
  simp only[hw]at h
  exact⟨keep a hy _,by rw[←Act.put_comm a v undef h2];exact h⟩
theorem GX_first {i:Nat}{oi:Oper}{v:Value}(hio:ops[i]? =some oi)(hsel:∀(j:Nat) (o:Oper) cs b,ops[j]? =some o→o.op≠ .select cs b)
 (hQ:∀c a w,Q (.panic c) (a.put oi.dst v) w→Q (.panic c) a w):
 ∀(fuel:Nat) (listed:Array Bool) (a:Act) (lo hi:Nat) (W:World),
  (∀j oj,ops[j]? =some oj→j≠i→listed.getD j true=false→(∀e∈oj.after,Region.binds .any e=true→e.on≠i)→oi.apart ops oj=true)→
  i∈Region.ready .any ops listed→QX P ops lo hi W oi v a→
  GX P ops Q fuel (listed.setIfInBounds i true) (a.put oi.dst v) lo hi W→GX P ops Q (fuel+1) listed a lo hi W:=by
 intro fuel
 induction fuel with
 |zero=>
  intro listed a lo hi W _ hr hy H w hw
  refine⟨fun h=>(by rw[h]at hr;cases hr),fun j hj=>?_⟩
  by_cases hji:j=i
  ·subst hji;exact hy.wpOp hio hw fun w' hw'=>⟨EX.of hw',lo,hi,Nat.le_refl _,Nat.le_refl _,H.world (hw.trans (EX.of hw'))⟩
  ·have:=ready_mono hj hji
   rw[H.1]at this
   cases this
 |succ fuel ih=>
  intro listed a lo hi W hfree hr hy H w hw
  refine⟨fun h=>(by rw[h]at hr;cases hr),fun j hj=>?_⟩
  by_cases hji:j=i
  ·subst hji;exact hy.wpOp hio hw fun w' hw'=>⟨EX.of hw',lo,hi,Nat.le_refl _,Nat.le_refl _,H.world (hw.trans (EX.of hw'))⟩
  ·have h1:=(H w hw).2 j (ready_mono hj hji)
   obtain⟨hjun,oj,hoj,hall⟩:=mem_ready.1 hj
   have hnot:∀e∈oj.after,Region.binds .any e=true→e.on≠i:=fun e he hb heq=>by
    have h1:=hall e he hb
    have h0:=(mem_ready.1 hr).1
    rw[heq]at h1
    rcases Nat.lt_or_ge i listed.size with h'|h'
    ·simp[h']at h0 h1;rw[h0]at h1;cases h1
    ·simp[Array.getElem?_eq_none h']at h1
   have h2:=wpOp_putX hoj (hfree j oj hoj hji hjun hnot) (fun cs b=>hsel i oi cs b hio) (fun cs b=>hsel j oj cs b hoj) hQ (hy.world (Nat.le_refl _) (Nat.le_refl _) hw) h1
   have hfree':∀k ok,ops[k]? =some ok→k≠i→(listed.setIfInBounds j true).getD k true=false→
    (∀e∈ok.after,Region.binds .any e=true→e.on≠i)→oi.apart ops ok=true:=fun k ok hk hki hun hno=>by
    refine hfree k ok hk hki ?_ hno
    by_cases hjk:j=k
    ·subst hjk;exact hjun
    ·rw[getD_set_ne true hjk]at hun;exact hun
   refine wpOp_mono (fun a' w' ⟨h3,h4,lo',hi',h5,h6,h7⟩=>⟨h4,lo',hi',h5,h6,ih (listed.setIfInBounds j true) a' lo' hi' w' hfree' (ready_mono hr (Ne.symm hji)) (h3.world h5 h6 h4) ?_⟩) h2
   rw[Array.setIfInBounds_comm _ _ hji]
   exact h7
def wpMiy (P:Program)(ops:Array Oper)(Q:Exit→Act→World→Prop):List Oper→Nat→Array Bool→Act→Nat→Nat→World→Prop
 |[],_,_,a,lo,hi,W=>∀w,EX lo hi W w→Q .normal a w
 |o::rest,k,listed,a,lo,hi,W=>
  (∃v,QX P ops lo hi W o v a∧wpMiy P ops Q rest (k+1) (listed.setIfInBounds k true) (a.put o.dst v) lo hi W)∨
  (Region.ready .any ops listed=[k]∧Region.wanted o (yielded ops a.tmps)=true∧∀w,EX lo hi W w→o.wp P a w (fun a' w'=>EX lo hi w w'∧∃lo' hi',lo≤lo'∧hi'≤hi∧wpMiy P ops Q rest (k+1) (listed.setIfInBounds k true) a' lo' hi' w') Q)
theorem miy_sound (hs:Region.noSelect ops=true)(hQ:∀c a d v w,Q (.panic c) (a.put d v) w→Q (.panic c) a w):∀(l:List Oper) (k:Nat) (listed:Array Bool) (a:Act) (lo hi:Nat) (W:World),(∀j,l[j]? =ops[k+j]?)→
 Region.lexFrom .any ops l.length k listed=true→wpMiy P ops Q l k listed a lo hi W→GX P ops Q l.length listed a lo hi W
 |[],_,_,_,_,_,_,_,hB,h=>⟨by simpa[Region.lexFrom]using hB,h⟩
 |o::l,k,listed,a,lo,hi,W,hl,hB,h=>by
  have h0:ops[k]? =some o:=by simpa using (hl 0).symm
  simp only[List.length_cons,Region.lexFrom,Bool.and_eq_true]at hB
  obtain⟨⟨hr,hf⟩,hB'⟩:=hB
  have hl':∀j,l[j]? =ops[k+1+j]? :=fun j=>by have:=hl (j+1);simpa[Nat.add_assoc,Nat.add_comm 1 j]using this
  rcases h with⟨v,hy,hK⟩|⟨hone,hwa,hK⟩
  ·exact GX_first h0 (Region.noSelect_spec hs) (fun c a w=>hQ c a _ _ w) l.length listed a lo hi W (Region.free_spec h0 hf) (by simpa using hr) hy (miy_sound hs hQ l (k+1) _ _ _ _ _ hl' hB' hK)
  ·intro w hw
   refine⟨fun h=>by rw[hone]at h;simp at h,fun i hi'=>?_⟩
   rw[hone]at hi'
   obtain rfl:i=k:=by simpa using hi'
   unfold wpOp
   simp only[h0,hwa,if_true]
   left
   exact Oper.wp_mono (fun a' w' ⟨h1,lo',hi',h2,h3,h4⟩=>⟨h1,lo',hi',h2,h3,miy_sound hs hQ l (i+1) _ _ _ _ _ hl' hB' h4⟩) (hK w hw)
theorem region_miy {id:Nat}{a:Act}{w:World}{l:List Oper}(lo hi:Nat)(hm:P.follows .mixedOrders=true)(hB:Region.lexB .any l.toArray=true)(hQ:∀c a d v w,Q (.panic c) (a.put d v) w→Q (.panic c) a w)
 (h:wpMiy P l.toArray Q l 0 (Array.replicate l.length false) a lo hi w):(Code.region id l.toArray true).wp P Q a w:=by
 simp only[Region.lexB,Bool.and_eq_true]at hB
 refine wp_region_any hm ?_
 have h2:=miy_sound hB.1 hQ l 0 (Array.replicate l.length false) a lo hi w (by simp) (by simpa using hB.2) h
 have h3:=(h2.world (EX.of ((Below.refl _ _).drew:Ext w w.drew))).any
 simpa using h3
section
variable {o:Oper}{rest:List Oper}{k lo hi:Nat}{listed:Array Bool}{a:Act}{W:World}
theorem miy_nil (h:∀w,EX lo hi W w→Q .normal a w):wpMiy P ops Q [] k listed a lo hi W:=h
theorem miy_skip (hw:Region.wanted o (yielded ops a.tmps)=false)(hn:wpMiy P ops Q rest (k+1) (listed.setIfInBounds k true) (a.put o.dst undef) lo hi W):wpMiy P ops Q (o::rest) k listed a lo hi W:=
 .inl ⟨undef,.inr ⟨hw,rfl⟩,hn⟩
theorem miy_skip_t {j d:Nat}{v:Value}(hg:o.guard=some (j,true))(hd:(ops[j]?).bind (·.dst)=some d)(hv:a.tmps.toList[d]? =some v)(hb:v= .bool false)(hn:wpMiy P ops Q rest (k+1) (listed.setIfInBounds k true) (a.put o.dst undef) lo hi W):wpMiy P ops Q (o::rest) k listed a lo hi W:=
 miy_skip (by simp[Region.wanted,hg,yields_bool hd hv hb]) hn
theorem miy_skip_f {j d:Nat}{v:Value}(hg:o.guard=some (j,false))(hd:(ops[j]?).bind (·.dst)=some d)(hv:a.tmps.toList[d]? =some v)(hb:v= .bool true)(hn:wpMiy P ops Q rest (k+1) (listed.setIfInBounds k true) (a.put o.dst undef) lo hi W):wpMiy P ops Q (o::rest) k listed a lo hi W:=
 miy_skip (by simp[Region.wanted,hg,yields_bool hd hv hb]) hn
theorem miy_skip_u {j d:Nat}{v:Value}{b:Bool}(hg:o.guard=some (j,b))(hd:(ops[j]?).bind (·.dst)=some d)(hv:a.tmps.toList[d]? =some v)(hb:v=undef)(hn:wpMiy P ops Q rest (k+1) (listed.setIfInBounds k true) (a.put o.dst undef) lo hi W):wpMiy P ops Q (o::rest) k listed a lo hi W:=
 miy_skip (by simp[Region.wanted,hg,yields_undef hd hv hb]) hn
theorem miy_take {v:Value}(hw:Region.wanted o (yielded ops a.tmps)=true)(h:∀w,EX lo hi W w→∀R:Value→Prop,R v→qUp P w w R ((execOp a.eval o).run P w))
 (hn:wpMiy P ops Q rest (k+1) (listed.setIfInBounds k true) (a.put o.dst v) lo hi W):wpMiy P ops Q (o::rest) k listed a lo hi W:=
 .inl ⟨v,.inl ⟨hw,fun w hw=>qUp_quiet (h w hw)⟩,hn⟩
theorem miy_alone (hr:Region.ready .any ops listed=[k])(hw:Region.wanted o (yielded ops a.tmps)=true)
 (h:∀w,EX lo hi W w→∀K:Act→World→Prop,(∀a' w' lo' hi',lo≤lo'→hi'≤hi→EX lo hi w w'→wpMiy P ops Q rest (k+1) (listed.setIfInBounds k true) a' lo' hi' w'→K a' w')→o.wp P a w K Q):wpMiy P ops Q (o::rest) k listed a lo hi W:=
 .inr ⟨hr,hw,fun w hw=>h w hw _ fun _ _ lo' hi' g1 g2 h1 h2=>⟨h1,lo',hi',g1,g2,h2⟩⟩
end
end
section
open Go.Proofs
theorem or_szI (a l:Int)(h:rightB a l=true)(hl:l < 16):bits .or .i64 a (msk (l+1)+1)=a+szI (l+1):=by
 obtain⟨g1,g2,g3,g4,g5⟩:=right_bd h
 obtain⟨n,rfl⟩:=Int.eq_ofNat_of_zero_le g3
 have e1:msk (l+1)+1=((2 ^ (16 - (l+1)).toNat:Nat):Int):=by simp[msk]
 have e2:szI (l+1)=((2 ^ (16 - (l+1)).toNat:Nat):Int):=by simp[szI]
 obtain⟨k,hk⟩:∃k,k=(16 - (l+1)).toNat:=⟨_,rfl⟩
 have e3:(16 - l).toNat=k+1:=by omega
 rw[e1,e2,←hk]
 have hk15:k≤15:=by omega
 have hp:2 ^ k≤2 ^ 15:=Nat.pow_le_pow_right (by omega) hk15
 have g6:n % 2 ^ (k+1)=0:=by
  unfold szI at g5
  rw[e3]at g5
  exact_mod_cast g5
 have hn:n=2 ^ (k+1)*(n / 2 ^ (k+1)):=by have:=Nat.div_add_mod n (2 ^ (k+1));omega
 have hor:n|||2 ^ k=n+2 ^ k:=by
  rw[hn]
  exact(Nat.two_pow_add_eq_or_of_lt (Nat.pow_lt_pow_right (by omega) (by omega)) _).symm
 show IntKind.i64.wrap ((BitVec.ofInt 64 (n:Int)|||BitVec.ofInt 64 ((2 ^ k:Nat):Int)).toNat:Int)=_
 rw[BitVec.toNat_or,ofInt_i64 n (by omega),ofInt_i64 _ (by omega),hor,IntKind.wrap_i64]
 omega
def zeroP:Value:= .agg #[.int .i64 0,.int .i64 0]
def halvesV (a l:Int):Value:=
 if chk a l=0 then (if l=16 then .tuple #[zeroP,zeroP,.int .i64 3]else .tuple #[.agg #[.int .i64 a,.int .i64 (l+1)],.agg #[.int .i64 (a+szI (l+1)),.int .i64 (l+1)],.int .i64 0])
 else .tuple #[zeroP,zeroP,.int .i64 (chk a l)]
theorem halves_any (a l:Int)(w:World):
 Calls Tryz.prog 322 #[.agg #[.int .i64 a,.int .i64 l]] w fun e w'=>e= .returned (halvesV a l)∧Ext w w':=by
 have hc:=check_any a l
 unfold halvesV zeroP
 by_cases h0:chk a l=0
 ·have hR:rightB a l=true:=by simp[rightB,h0]
  obtain⟨g1,g2,g3,g4,g5⟩:=right_bd hR
  rw[if_pos h0]
  rw[h0]at hc
  replace hc:=Lib.hid hc
  clear h0
  by_cases h16:l=16
  ·rw[if_pos h16]
   have h16I:(l==16)=true:=by simp[h16]
   clear h16
   go_enter Tryz.func322,Tryz.ntmps322
   go_wp2_with fail
   refine(hc.out _).mono ?_
   rintro e w1 ⟨rfl,hw1⟩
   obtain⟨hcw1,hfw1⟩:=bcell hw1
   have hzw1:=bsize hw1
   (try simp only[World.size_alloc,World.size_setCell,World.size_drew,World.heap_drewN]at hcw1 hfw1 hzw1)
   go_wp2_with fail
   refine bodyPost_ret ?_ rfl ⟨rfl,Bel.bel (B:=_) ?_⟩
   ·simp[results,Tryz.results322,go_sem,hcw1]
   ·(repeat(first|with_reducible assumption|with_reducible exact Bel.refl _|with_reducible refine Bel.alloc ?_ _|with_reducible refine Bel.drewN ?_ _|with_reducible refine Bel.drew ?_|(with_reducible refine Bel.setCell0 ?_ ?_ _;rotate_left;(first|omega|(simp;done)|(simp;omega)))|(with_reducible refine Bel.setCell ?_ (p:=_) ?_ _;rotate_left;(first|(simp;done)|omega|(simp;omega)))|refine Bel.call ?_ (by assumption)|(refine EX.bel ?_ (by assumption) ?_;rotate_left;(first|omega|(simp;omega)))))
  ·rw[if_neg h16]
   have h16I:(l==16)=false:=by simp[h16]
   have hor:=or_szI a l hR (by omega)
   obtain⟨z1,z2⟩:=msk_bd (l+1) (by omega)
   have hwr:IntKind.i64.wrap (msk (l+1)+1)=msk (l+1)+1:=IntWalk.i64_in _ (by omega)
   have hmk:=fun W=>mask_any (l+1) W (by omega) (by omega)
   replace hmk:=Lib.hid hmk
   clear h16
   go_enter Tryz.func322,Tryz.ntmps322
   go_wp2_with fail
   refine(hc.out _).mono ?_
   rintro e w1 ⟨rfl,hw1⟩
   obtain⟨hcw1,hfw1⟩:=bcell hw1
   have hzw1:=bsize hw1
   (try simp only[World.size_alloc,World.size_setCell,World.size_drew,World.heap_drewN]at hcw1 hfw1 hzw1)
   have l1:w.heap.size < w1.heap.size:=by omega
   have l2:w.heap.size+1 < w1.heap.size:=by omega
   have l3:w.heap.size+1+1 < w1.heap.size:=by omega
   go_wp2_with fail
   refine region_miy (w.heap.size+1) (w.heap.size+3) (by kernel_rfl) (by kernel_rfl) (fun _ _ d _ _ h=>by cases d<;>exact h) ?_
   repeat(first|((first|refine miy_skip_t rfl rfl rfl (by with_reducible rfl) ?_|refine miy_skip_f rfl rfl rfl (by with_reducible rfl) ?_|refine miy_skip_u rfl rfl rfl (by with_reducible rfl) ?_);simp only[Act.put,List.setIfInBounds_toArray,List.set_cons_zero,List.set_cons_succ])|(apply miy_take;(first|exact want_0 rfl|exact want_b rfl rfl rfl (by with_reducible rfl));intro wq hwq R hR;((have hcc:=EX.lo hwq (by first|omega|(simp;omega)|(simp;done));have hcd:=EX.hi hwq;(try simp only[World.size_alloc,World.size_setCell,World.size_drew,World.heap_drewN]at hcc hcd));go_simp;first|exact hR|((go_at_call 49;exact mcall_same (hmk.out _) hR)));simp only[Act.put,List.setIfInBounds_toArray,List.set_cons_zero,List.set_cons_succ]))
   refine miy_alone (by kernel_rfl) (by first|exact want_0 rfl|exact want_b rfl rfl rfl (by with_reducible rfl)) (fun w2 hw2 K hK=>?_)
   have hzw2:=hw2.size
   have hlw2:=EX.lo hw2 (by first|omega|(simp;omega)|(simp;done))
   have hhw2:=EX.hi hw2
   have hfw2:=hw2.free
   (try simp only[World.size_alloc,World.size_setCell,World.size_drew,World.heap_drewN]at hzw2 hlw2 hhw2 hfw2)
   (try have l0w2:w.heap.size < w2.heap.size:=by omega)
   (try have l1w2:w.heap.size+1 < w2.heap.size:=by omega)
   (try have l2w2:w.heap.size+1+1 < w2.heap.size:=by omega)
   (try have l3w2:w.heap.size+1+1+1 < w2.heap.size:=by omega)
   obtain⟨u0w2,hu0w2⟩:=hw2.some (b:=w.heap.size+1) (o:=0) (v:=_) (by go_simp;rfl)
   obtain⟨u1w2,hu1w2⟩:=hw2.some (b:=w.heap.size+1) (o:=1) (v:=_) (by go_simp;rfl)
   go_simp
   refine hK _ _ (w.heap.size+2) (w.heap.size+3) (by omega) (by omega) (by repeat(first|exact EX.refl _|refine EX.setCell ?_ (by omega) (by omega) _)) ?_
   clear hK K
   obtain⟨v0,hv0⟩:=hw2.some (b:=w.heap.size+1+1) (o:=0) (v:=_) (by go_simp;rfl)
   obtain⟨v1,hv1⟩:=hw2.some (b:=w.heap.size+1+1) (o:=1) (v:=_) (by go_simp;rfl)
   refine miy_alone (by kernel_rfl) (by first|exact want_0 rfl|exact want_b rfl rfl rfl (by with_reducible rfl)) (fun w3 hw3 K hK=>?_)
   have hzw3:=hw3.size
   have hlw3:=EX.lo hw3 (by first|omega|(simp;omega)|(simp;done))
   have hhw3:=EX.hi hw3
   have hfw3:=hw3.free
   (try simp only[World.size_alloc,World.size_setCell,World.size_drew,World.heap_drewN]at hzw3 hlw3 hhw3 hfw3)
   (try have l0w3:w.heap.size < w3.heap.size:=by omega)
   (try have l1w3:w.heap.size+1 < w3.heap.size:=by omega)
   (try have l2w3:w.heap.size+1+1 < w3.heap.size:=by omega)
   (try have l3w3:w.heap.size+1+1+1 < w3.heap.size:=by omega)
   obtain⟨u0w3,hu0w3⟩:=hw3.some (b:=w.heap.size+1+1) (o:=0) (v:=_) (by go_simp;rfl)
   obtain⟨u1w3,hu1w3⟩:=hw3.some (b:=w.heap.size+1+1) (o:=1) (v:=_) (by go_simp;rfl)
   go_simp
   refine hK _ _ (w.heap.size+3) (w.heap.size+3) (by omega) (by omega) (by repeat(first|exact EX.refl _|refine EX.setCell ?_ (by omega) (by omega) _)) ?_
   clear hK K
   repeat(first|((first|refine miy_skip_t rfl rfl rfl (by with_reducible rfl) ?_|refine miy_skip_f rfl rfl rfl (by with_reducible rfl) ?_|refine miy_skip_u rfl rfl rfl (by with_reducible rfl) ?_);simp only[Act.put,List.setIfInBounds_toArray,List.set_cons_zero,List.set_cons_succ])|(apply miy_take;(first|exact want_0 rfl|exact want_b rfl rfl rfl (by with_reducible rfl));intro wq hwq R hR;((have hcc:=EX.lo hwq (by first|omega|(simp;omega)|(simp;done));have hcd:=EX.hi hwq;(try simp only[World.size_alloc,World.size_setCell,World.size_drew,World.heap_drewN]at hcc hcd));go_simp;first|exact hR|(fail));simp only[Act.put,List.setIfInBounds_toArray,List.set_cons_zero,List.set_cons_succ]))
   refine miy_nil ?_
   intro w4 hw4
   have hzw4:=hw4.size
   have hlw4:=EX.lo hw4 (by first|omega|(simp;omega)|(simp;done))
   have hhw4:=EX.hi hw4
   have hfw4:=hw4.free
   (try simp only[World.size_alloc,World.size_setCell,World.size_drew,World.heap_drewN]at hzw4 hlw4 hhw4 hfw4)
   (try have l0w4:w.heap.size < w4.heap.size:=by omega)
   (try have l1w4:w.heap.size+1 < w4.heap.size:=by omega)
   (try have l2w4:w.heap.size+1+1 < w4.heap.size:=by omega)
   (try have l3w4:w.heap.size+1+1+1 < w4.heap.size:=by omega)
   go_wp2_with fail
   refine bodyPost_ret ?_ rfl ⟨rfl,Bel.bel (B:=_) ?_⟩
   ·simp[results,Tryz.results322,go_sem,hlw4,hlw3,hu0w2,hu1w2,hu0w3,hu1w3]
   ·(repeat(first|with_reducible assumption|with_reducible exact Bel.refl _|with_reducible refine Bel.alloc ?_ _|with_reducible refine Bel.drewN ?_ _|with_reducible refine Bel.drew ?_|(with_reducible refine Bel.setCell0 ?_ ?_ _;rotate_left;(first|omega|(simp;done)|(simp;omega)))|(with_reducible refine Bel.setCell ?_ (p:=_) ?_ _;rotate_left;(first|(simp;done)|omega|(simp;omega)))|refine Bel.call ?_ (by assumption)|(refine EX.bel ?_ (by assumption) ?_;rotate_left;(first|omega|(simp;omega)))))
 ·rw[if_neg h0]
  replace h0:(chk a l !=0)=true:=by simpa using h0
  obtain⟨r,hr⟩:∃r,r=chk a l:=⟨_,rfl⟩
  rw[←hr]at hc h0 ⊢
  clear hr
  replace hc:=Lib.hid hc
  go_enter Tryz.func322,Tryz.ntmps322
  go_wp2_with fail
  refine(hc.out _).mono ?_
  rintro e w1 ⟨rfl,hw1⟩
  obtain⟨hcw1,hfw1⟩:=bcell hw1
  have hzw1:=bsize hw1
  (try simp only[World.size_alloc,World.size_setCell,World.size_drew,World.heap_drewN]at hcw1 hfw1 hzw1)
  go_wp2_with fail
  refine bodyPost_ret ?_ rfl ⟨rfl,Bel.bel (B:=_) ?_⟩
  ·simp[results,Tryz.results322,go_sem,hcw1]
  ·(repeat(first|with_reducible assumption|with_reducible exact Bel.refl _|with_reducible refine Bel.alloc ?_ _|with_reducible refine Bel.drewN ?_ _|with_reducible refine Bel.drew ?_|(with_reducible refine Bel.setCell0 ?_ ?_ _;rotate_left;(first|omega|(simp;done)|(simp;omega)))|(with_reducible refine Bel.setCell ?_ (p:=_) ?_ _;rotate_left;(first|(simp;done)|omega|(simp;omega)))|refine Bel.call ?_ (by assumption)|(refine EX.bel ?_ (by assumption) ?_;rotate_left;(first|omega|(simp;omega)))))
end
section
open Go.Proofs
theorem meets1_any (b:Nat)(p q:Pfx)(w:World)(h0:w.cell? ⟨b,0,none⟩=some (.int .i64 p.at_))(h1:w.cell? ⟨b,1,none⟩=some (.int .i64 p.len)):
 Calls Tryz.prog 333 #[.agg #[.int .i64 q.at_,.int .i64 q.len],.pointer (some ⟨b,0,none⟩)] w fun e w'=>e= .returned (.bool (p.meets q))∧Ext w w':=by
 have hlt:=lt_of_cell h0
 have hm:=meets_any p.at_ p.len q.at_ q.len
 obtain⟨r,hr⟩:∃r,r=p.meets q:=⟨_,rfl⟩
 unfold Pfx.meets at hr
 rw[←hr]at hm
 unfold Pfx.meets
 rw[←hr]
 clear hr
 replace hm:=Lib.hid hm
 go_enter Tryz.func333,Tryz.ntmps333
 go_wp2_with fail
 refine(hm.out _).mono ?_
 rintro e w1 ⟨rfl,hw1⟩
 obtain⟨hcw1,hfw1⟩:=bcell hw1
 have hzw1:=bsize hw1
 (try simp only[World.size_alloc,World.size_setCell,World.size_drew,World.heap_drewN]at hcw1 hfw1 hzw1)
 go_wp2_with fail
 go_ret
 refine⟨rfl,Bel.bel (B:=_) ?_⟩
 (repeat(first|with_reducible assumption|with_reducible exact Bel.refl _|with_reducible refine Bel.alloc ?_ _|with_reducible refine Bel.drewN ?_ _|with_reducible refine Bel.drew ?_|(with_reducible refine Bel.setCell0 ?_ ?_ _;rotate_left;(first|omega|(simp;done)|(simp;omega)))|(with_reducible refine Bel.setCell ?_ (p:=_) ?_ _;rotate_left;(first|(simp;done)|omega|(simp;omega)))|refine Bel.call ?_ (by assumption)|(refine EX.bel ?_ (by assumption) ?_;rotate_left;(first|omega|(simp;omega)))))
theorem pred_meets (b:Nat)(p:Pfx)(us:List Pfx)(w:World)(h0:w.cell? ⟨b,0,none⟩=some (.int .i64 p.at_))(h1:w.cell? ⟨b,1,none⟩=some (.int .i64 p.len)):
 PredP Tryz.prog 333 #[.pointer (some ⟨b,0,none⟩)] Pfx.R (fun q=>p.meets q) us w:=by
 intro W hW x _ cs hR
 unfold Pfx.R at hR
 subst hR
 exact meets1_any b p x W (keepCell hW h0) (keepCell hW h1)
theorem spaceMeets_any {A:Area}(us:List Pfx)(uo:Option Addr)(ucap:Nat)(p:Pfx)(w:World)(h:Sl A w 2 Pfx.R uo ucap us):
 Calls Tryz.prog 321 #[.slice uo us.length ucap,.agg #[.int .i64 p.at_,.int .i64 p.len]] w fun e w'=>e= .returned (.bool (us.any fun q=>p.meets q))∧Ext w w':=by
 have hc:=fun W (hs:Sl A W 2 Pfx.R uo ucap us) h0 h1=>containsFunc_P 333 #[.pointer (some ⟨w.heap.size,0,none⟩)] (enters_of Tryz.func333 (by kernel_rfl) rfl) (fun q=>p.meets q) us uo ucap W hs (pred_meets w.heap.size p us W h0 h1)
 obtain⟨r,hr⟩:∃r,r=us.any fun q=>p.meets q:=⟨_,rfl⟩
 rw[←hr]at hc ⊢
 clear hr
 replace hc:=Lib.hid hc
 go_enter Tryz.func321,Tryz.ntmps321
 go_wp2_with fail
 refine(hc.out _ (h.ext (ext_alloc _ _)) (by simp) (by simp)).mono ?_
 rintro e w1 ⟨rfl,hx1⟩
 go_wp2_with fail
 go_ret
 exact⟨rfl,ext_trans (ext_alloc _ _) hx1⟩
end
section
open Go.Proofs Go.Shelf
attribute [local go_sem] Oper.semAt_some
def holesF (us:List Pfx):Nat→Pfx→List Pfx
 |0,p=>if us.any p.meets then []else [p]
 |n+1,p=>if us.any p.meets then (if us.contains p then []else holesF us n p.low++holesF us n p.high)else [p]
theorem low_right {p:Pfx}(h:p.right=true)(hl:p.len < 16):p.low.right=true:=by
 obtain⟨g1,g2,g3,g4,g5⟩:=right_bd h
 refine right_of (by simp[Pfx.low];omega) (by simp[Pfx.low];omega) g3 g4 ?_
 show p.at_ % szI (p.len+1)=0
 rw[szI_half g1 hl]at g5
 exact Int.emod_eq_zero_of_dvd (Int.dvd_trans ⟨2,by omega⟩ (Int.dvd_of_emod_eq_zero g5))
theorem high_right {p:Pfx}(h:p.right=true)(hl:p.len < 16):p.high.right=true:=by
 obtain⟨g1,g2,g3,g4,g5⟩:=right_bd h
 have hf:=right_fit h
 have hh:=szI_half g1 hl
 have hs:=szI_bd (n:=p.len+1) (by omega)
 refine right_of (by simp[Pfx.high];omega) (by simp[Pfx.high];omega) (by simp[Pfx.high];omega) (by simp[Pfx.high];omega) ?_
 show (p.at_+szI (p.len+1)) % szI (p.len+1)=0
 rw[Int.add_emod_right]
 rw[hh]at g5
 exact Int.emod_eq_zero_of_dvd (Int.dvd_trans ⟨2,by omega⟩ (Int.dvd_of_emod_eq_zero g5))
structure KP (own:World→Nat→Prop)(W W':World):Prop where
 size:W.heap.size≤W'.heap.size
 cells:∀b c t f,¬own W b→W.heap[b]? =some (.cells c t f)→W'.heap[b]? =some (.cells c t f)
 own:∀b,b < W.heap.size→own W' b→own W b
theorem lt_of_block {w:World}{b:Nat}{o:Obj}(h:w.heap[b]? =some o):b < w.heap.size:=by
 rcases Nat.lt_or_ge b w.heap.size with h'|h'
 ·exact h'
 ·simp[Array.getElem?_eq_none h']at h
theorem KP.trans {own:World→Nat→Prop}{a b c:World}(h:KP own a b)(k:KP own b c):KP own a c:=
 ⟨Nat.le_trans h.size k.size,fun i x t f hn hc=>k.cells i x t f (fun ho=>hn (h.own i (lt_of_block hc) ho)) (h.cells i x t f hn hc),fun i hi ho=>h.own i hi (k.own i (Nat.lt_of_lt_of_le hi h.size) ho)⟩
theorem KP.of {own:World→Nat→Prop}{a b:World}(h:Ext a b)(ho:∀i,own b i→own a i):KP own a b:=
 ⟨h.size,fun i x t f _ hc=>block_ext h hc,fun i _ hi=>ho i hi⟩
theorem KP.cell {own:World→Nat→Prop}{a b:World}(h:KP own a b){i o:Nat}{v:Value}(hn:¬own a i)(hc:a.cell? ⟨i,o,none⟩=some v):b.cell? ⟨i,o,none⟩=some v:=by
 have hlt:=lt_of_cell hc
 obtain⟨x,hx⟩:∃x,a.heap[i]? =some x:=⟨_,Array.getElem?_eq_getElem hlt⟩
 cases x with
 |cells c t f=>
  have:=h.cells i c t f hn hx
  simp only[World.cell?,hx,this]at hc ⊢
  exact hc
 |_=>simp[World.cell?,hx]at hc
theorem Sl.kp {α:Type}{own:World→Nat→Prop}{n₀:Nat}{w w':World}{k:Nat}{R:List Value→α→Prop}{ao:Option Addr}{cap:Nat}{l:List α}(h:Sl (fun b=>b < n₀) w k R ao cap l)(ho:∀b,own w b→n₀≤b)(hb:KP own w w'):Sl (fun b=>b < n₀) w' k R ao cap l:=by
 refine⟨h.cap_le,h.cap_max,fun i hi=>?_⟩
 obtain⟨b,off,cs,h1,h2,h3,h4,h5⟩:=h.elem i hi
 exact⟨b,off,cs,h1,h2,h3,h4,fun j hj=>hb.cell (fun hx=>by have:=ho b hx;omega) (h5 j hj)⟩
theorem room_of_none {F:Fence}(hd:F.depth=none)(k:Nat):F.room k:=fun d h=>by rw[hd]at h;cases h
theorem RoundIn.anyDepth {F:Fence}(hd:F.depth=none){m m':Nat}{P:Program}{l:Nat}{f:FuncId}{tmps:Array Value}{assign body:Code}{w:World}{R:Ending→World→Prop}
 (h:RoundIn F m P l f tmps assign body w R):RoundIn F m' P l f tmps assign body w R:=⟨h.1,fun c cs _=>h.2 c cs (room_of_none hd _)⟩
theorem YieldAt.anyDepth {F:Fence}(hd:F.depth=none){m:Nat}(m':Nat){P:Program}{l:Nat}{args:Array Value}{W:World}{R:Ending→World→Prop}(h:YieldAt F m P l args W R):YieldAt F m' P l args W R:=by
 obtain⟨fn,tmps,assign,body,hy,hR⟩:=h
 exact⟨fn,tmps,assign,body,hy,RoundIn.anyDepth hd hR⟩
def DownEnd (own:World→Nat→Prop)(J Jx:List Pfx→World→Prop)(pre L:List Pfx)(W:World)(e:Ending)(W':World):Prop:=
 (e= .returned (.bool true)∧J (pre++L) W'∧KP own W W')∨(e= .returned (.bool false)∧∃q,q <+:L∧Jx (pre++q) W')
structure LoopOK (own:World→Nat→Prop)(n₀ N l:Nat)(J Jx:List Pfx→World→Prop):Prop where
 ext:∀s A B,J s A→Ext A B→J s B
 extx:∀s A B,Jx s A→Ext A B→Jx s B
 own1:∀s A b,J s A→own A b→n₀≤b∧b < A.heap.size
 own2:∀s A B b,J s A→Ext A B→own B b→own A b
 round:∀m pre (x:Pfx) W,J pre W→pre.length < N→YieldAt Fence.wide m Tryz.prog l #[x.v] W fun e W'=>
  (e= .returned (.bool true)∧J (pre++[x]) W'∧KP own W W')∨(e= .returned (.bool false)∧Jx (pre++[x]) W')
theorem LoopOK.kp {own:World→Nat→Prop}{n₀ N l:Nat}{J Jx:List Pfx→World→Prop}(hL:LoopOK own n₀ N l J Jx){s:List Pfx}{A B:World}(hj:J s A)(hx:Ext A B):KP own A B:=KP.of hx fun b=>hL.own2 s A B b hj hx
section
variable (own:World→Nat→Prop)(l n₀ N:Nat)(us:List Pfx)(uo:Option Addr)(ucap:Nat)(J Jx:List Pfx→World→Prop)(hL:LoopOK own n₀ N l J Jx)
include hL
theorem down_free (p:Pfx)(m:Nat)(pre:List Pfx)(W:World)(hM:us.any p.meets=false)(hs:Sl (fun b=>b < n₀) W 2 Pfx.R uo ucap us)(hj:J pre W)(hN:pre.length+1≤N):
 CallsIn Fence.wide m Tryz.prog 293 #[p.v,.slice uo us.length ucap,.func (.yield l) #[] #[]] W (DownEnd own J Jx pre [p] W):=by
 have hm:=fun W' (h:Sl (fun b=>b < n₀) W' 2 Pfx.R uo ucap us)=>spaceMeets_any us uo ucap p W' h
 rw[hM]at hm
 replace hm:=Lib.hid hm
 clear hM
 unfold Pfx.v
 refine callsIn_of_wp Tryz.func293 rfl trivial ?_ rfl
 simp only[Tryz.ntmps293,List.size_toArray,List.length_cons,List.length_nil,Nat.reduceAdd,Nat.reduceSub,Array.replicate_succ,Array.replicate_zero,List.push_toArray,List.append_toArray,List.nil_append,List.cons_append]
 gi_wp2_with fail
 refine⟨trivial,fun h=>(by cases h),?_⟩
 refine(callsIn_wide.2 (hm.out _ (hs.ext (ext_alloc _ _)))).mono ?_
 rintro e w1 ⟨rfl,hw1⟩
 obtain⟨hcw1,hfw1⟩:=bcell hw1
 have hzw1:=bsize hw1
 (try simp only[World.size_alloc,World.size_setCell,World.size_drew,World.heap_drewN]at hcw1 hfw1 hzw1)
 have hx1:=ext_trans (ext_alloc _ _) hw1
 obtain⟨fn,tmps,assign,body,hy,hRr⟩:=hL.round (m - 1) pre p w1 (hL.ext _ _ _ hj hx1) (by omega)
 unfold Pfx.v at hy
 have hb1:=hL.kp hj hx1
 gi_wp2_with fail
 refine⟨fun h=>(by cases h),?_⟩
 refine hRr.mono ?_
 rintro e w2 (⟨rfl,hj2,hb2⟩|⟨rfl,hx2⟩)
 ·gi_wp2_with fail
  go_ret
  exact .inl ⟨rfl,hj2,hb1.trans hb2⟩
 ·gi_wp2_with fail
  go_ret
  exact .inr ⟨rfl,[p],List.prefix_refl _,hx2⟩
theorem down_in:∀(n:Nat) (p:Pfx) (m:Nat) (pre:List Pfx) (W:World),16 - p.len=(n:Int)→p.right=true→Sl (fun b=>b < n₀) W 2 Pfx.R uo ucap us→J pre W→pre.length+(holesF us n p).length≤N→
 CallsIn Fence.wide m Tryz.prog 293 #[p.v,.slice uo us.length ucap,.func (.yield l) #[] #[]] W (DownEnd own J Jx pre (holesF us n p) W):=by
 intro n
 induction n with
 |zero=>
  intro p m pre W hn hr hs hj hN
  cases hM:us.any p.meets
  ·unfold holesF at hN ⊢
   rw[hM]at hN ⊢
   simp only[Bool.false_eq_true,if_false,List.length_cons,List.length_nil]at hN ⊢
   exact down_free own l n₀ N us uo ucap J Jx hL p m pre W hM hs hj (by omega)
  ·unfold holesF
   rw[hM,if_pos rfl]
   have hm:=fun W' (h:Sl (fun b=>b < n₀) W' 2 Pfx.R uo ucap us)=>spaceMeets_any us uo ucap p W' h
   rw[hM]at hm
   have hh:=halves_any p.at_ p.len
   have hc:chk p.at_ p.len=0:=by have:=hr;unfold Pfx.right rightB at this;simpa using this
   have hl:p.len=16:=by omega
   have hv:halvesV p.at_ p.len= .tuple #[.agg #[.int .i64 0,.int .i64 0],.agg #[.int .i64 0,.int .i64 0],.int .i64 3]:=by unfold halvesV zeroP;rw[if_pos hc,if_pos hl]
   rw[hv]at hh
   clear hv hc hM hN hl hn hr
   replace hm:=Lib.hid hm
   replace hh:=Lib.hid hh
   unfold Pfx.v
   refine callsIn_of_wp Tryz.func293 rfl trivial ?_ rfl
   simp only[Tryz.ntmps293,List.size_toArray,List.length_cons,List.length_nil,Nat.reduceAdd,Nat.reduceSub,Array.replicate_succ,Array.replicate_zero,List.push_toArray,List.append_toArray,List.nil_append,List.cons_append]
   gi_wp2_with fail
   refine⟨trivial,fun h=>(by cases h),?_⟩
   refine(callsIn_wide.2 (hm.out _ (hs.ext (ext_alloc _ _)))).mono ?_
   rintro e w1 ⟨rfl,hw1⟩
   obtain⟨hcw1,hfw1⟩:=bcell hw1
   have hzw1:=bsize hw1
   (try simp only[World.size_alloc,World.size_setCell,World.size_drew,World.heap_drewN]at hcw1 hfw1 hzw1)
   have hx1:=ext_trans (ext_alloc _ _) hw1
   have l1:W.heap.size < w1.heap.size:=by omega
   gi_wp2_with fail
   refine⟨trivial,fun h=>(by cases h),?_⟩
   refine(callsIn_wide.2 (hh.out _)).mono ?_
   rintro e w2 ⟨rfl,hw2⟩
   obtain⟨hcw2,hfw2⟩:=bcell hw2
   have hzw2:=bsize hw2
   (try simp only[World.size_alloc,World.size_setCell,World.size_drew,World.heap_drewN]at hcw2 hfw2 hzw2)
   have l2:W.heap.size < w2.heap.size:=by omega
   gi_wp2_with fail
   refine⟨trivial,?_⟩
   gi_wp2_with fail
   go_ret
   exact .inl ⟨rfl,by rw[List.append_nil];exact hL.ext _ _ _ hj (ext_trans hx1 (ext_trans hw2 (ext_trans (ext_alloc _ _) (ext_alloc _ _)))),hL.kp hj (ext_trans hx1 (ext_trans hw2 (ext_trans (ext_alloc _ _) (ext_alloc _ _))))⟩
 |succ n ih=>
  intro p m pre W hn hr hs hj hN
  cases hM:us.any p.meets
  ·unfold holesF at hN ⊢
   rw[hM]at hN ⊢
   simp only[Bool.false_eq_true,if_false,List.length_cons,List.length_nil]at hN ⊢
   exact down_free own l n₀ N us uo ucap J Jx hL p m pre W hM hs hj (by omega)
  ·have hm:=fun W' (h:Sl (fun b=>b < n₀) W' 2 Pfx.R uo ucap us)=>spaceMeets_any us uo ucap p W' h
   rw[hM]at hm
   have hh:=halves_any p.at_ p.len
   have hc:chk p.at_ p.len=0:=by have:=hr;unfold Pfx.right rightB at this;simpa using this
   have hl:p.len < 16:=by omega
   have hv:halvesV p.at_ p.len= .tuple #[.agg #[.int .i64 p.at_,.int .i64 (p.len+1)],.agg #[.int .i64 (p.at_+szI (p.len+1)),.int .i64 (p.len+1)],.int .i64 0]:=by unfold halvesV;rw[if_pos hc,if_neg (by omega)]
   rw[hv]at hh
   have hct:=fun W' (h:Sl (fun b=>b < n₀) W' 2 Pfx.R uo ucap us)=>contains_P p us uo ucap W' h
   unfold holesF at hN ⊢
   rw[hM,if_pos rfl]at hN ⊢
   clear hv hc hM
   replace hm:=Lib.hid hm
   replace hh:=Lib.hid hh
   cases hC:us.contains p
   ·rw[hC]at hct hN
    simp only[Bool.false_eq_true,if_false,List.length_append]at hN ⊢
    replace hct:=Lib.hid hct
    have ihl:=fun m' pre' W'=>ih p.low m' pre' W' (by simp[Pfx.low];omega) (low_right hr hl)
    have ihr:=fun m' pre' W'=>ih p.high m' pre' W' (by simp[Pfx.high];omega) (high_right hr hl)
    obtain⟨L,hLL⟩:∃L,L=holesF us n p.low:=⟨_,rfl⟩
    obtain⟨M,hMM⟩:∃M,M=holesF us n p.high:=⟨_,rfl⟩
    rw[←hLL]at ihl hN ⊢
    rw[←hMM]at ihr hN ⊢
    simp only[Pfx.v,Pfx.low]at ihl
    simp only[Pfx.v,Pfx.high]at ihr
    replace ihl:=Lib.hid ihl
    replace ihr:=Lib.hid ihr
    clear ih hLL hMM hC hl hn hr
    unfold Pfx.v
    refine callsIn_of_wp Tryz.func293 rfl trivial ?_ rfl
    simp only[Tryz.ntmps293,List.size_toArray,List.length_cons,List.length_nil,Nat.reduceAdd,Nat.reduceSub,Array.replicate_succ,Array.replicate_zero,List.push_toArray,List.append_toArray,List.nil_append,List.cons_append]
    gi_wp2_with fail
    refine⟨trivial,fun h=>(by cases h),?_⟩
    refine(callsIn_wide.2 (hm.out _ (hs.ext (ext_alloc _ _)))).mono ?_
    rintro e w1 ⟨rfl,hw1⟩
    obtain⟨hcw1,hfw1⟩:=bcell hw1
    have hzw1:=bsize hw1
    (try simp only[World.size_alloc,World.size_setCell,World.size_drew,World.heap_drewN]at hcw1 hfw1 hzw1)
    have hx1:=ext_trans (ext_alloc _ _) hw1
    have l1:W.heap.size < w1.heap.size:=by omega
    gi_wp2_with fail
    refine⟨trivial,fun h=>(by cases h),?_⟩
    refine(callsIn_wide.2 (hh.out _)).mono ?_
    rintro e w2 ⟨rfl,hw2⟩
    obtain⟨hcw2,hfw2⟩:=bcell hw2
    have hzw2:=bsize hw2
    (try simp only[World.size_alloc,World.size_setCell,World.size_drew,World.heap_drewN]at hcw2 hfw2 hzw2)
    have hx2:=ext_trans hx1 hw2
    have l2:W.heap.size < w2.heap.size:=by omega
    gi_wp2_with fail
    refine⟨trivial,fun h=>(by cases h),?_⟩
    refine(callsIn_wide.2 (hct.out _ ((hs.ext hx2).ext (ext_trans (ext_alloc _ _) (ext_alloc _ _))))).mono ?_
    rintro e w3 ⟨rfl,hw3⟩
    obtain⟨hcw3,hfw3⟩:=bcell hw3
    have hzw3:=bsize hw3
    (try simp only[World.size_alloc,World.size_setCell,World.size_drew,World.heap_drewN]at hcw3 hfw3 hzw3)
    have hx3:=ext_trans hx2 (ext_trans (ext_trans (ext_alloc _ _) (ext_alloc _ _)) hw3)
    have hj3:=hL.ext _ _ _ hj hx3
    have hk3:=hL.kp hj hx3
    have l3:w2.heap.size < w3.heap.size:=by omega
    have l4:w2.heap.size+1 < w3.heap.size:=by omega
    have l5:W.heap.size < w3.heap.size:=by omega
    have d0:w3.cell? ⟨w2.heap.size,0,none⟩=some (.int .i64 p.at_):=by rw[hcw3 _ _ (by omega)];go_simp
    have d1:w3.cell? ⟨w2.heap.size,1,none⟩=some (.int .i64 (p.len+1)):=by rw[hcw3 _ _ (by omega)];go_simp
    have e0:w3.cell? ⟨w2.heap.size+1,0,none⟩=some (.int .i64 (p.at_+szI (p.len+1))):=by rw[hcw3 _ _ (by omega)];go_simp
    have e1:w3.cell? ⟨w2.heap.size+1,1,none⟩=some (.int .i64 (p.len+1)):=by rw[hcw3 _ _ (by omega)];go_simp
    have no:¬own w3 (w2.heap.size+1):=fun ho=>by
     have:=(hL.own1 _ _ _ hj (hL.own2 _ _ _ _ hj hx3 ho)).2
     omega
    have hs3:=hs.ext hx3
    clear hcw3 hfw3 hcw2 hfw2 hcw1 hfw1
    gi_wp2_with fail
    refine⟨trivial,fun h=>(by cases h),?_⟩
    refine(ihl.out _ pre _ hs3 hj3 (by omega)).mono ?_
    rintro e w4 (⟨rfl,hj4,hk4⟩|⟨rfl,q,hq,hx4⟩)
    ·have hs4:=hs3.kp (fun b hb=>(hL.own1 _ _ _ hj3 hb).1) hk4
     have e0':=hk4.cell no e0
     have e1':=hk4.cell no e1
     clear e0 e1 d0 d1
     gi_wp2_with fail
     refine⟨trivial,fun h=>(by cases h),?_⟩
     refine(ihr.out _ _ _ hs4 hj4 (by simp;omega)).mono ?_
     rintro e w5 (⟨rfl,hj5,hk5⟩|⟨rfl,q,hq,hx5⟩)
     ·gi_wp2_with fail
      go_ret
      exact .inl ⟨rfl,by rw[←List.append_assoc];exact hj5,hk3.trans (hk4.trans hk5)⟩
     ·gi_wp2_with fail
      go_ret
      obtain⟨r,hr⟩:=hq
      exact .inr ⟨rfl,L++q,⟨r,by rw[←hr];simp⟩,by rw[←List.append_assoc];exact hx5⟩
    ·gi_wp2_with fail
     refine⟨trivial,?_⟩
     gi_wp2_with fail
     go_ret
     exact .inr ⟨rfl,q,hq.trans (List.prefix_append _ _),hx4⟩
   ·rw[hC]at hct
    rw[if_pos rfl]
    replace hct:=Lib.hid hct
    clear ih hC hl hn hr hN
    unfold Pfx.v
    refine callsIn_of_wp Tryz.func293 rfl trivial ?_ rfl
    simp only[Tryz.ntmps293,List.size_toArray,List.length_cons,List.length_nil,Nat.reduceAdd,Nat.reduceSub,Array.replicate_succ,Array.replicate_zero,List.push_toArray,List.append_toArray,List.nil_append,List.cons_append]
    gi_wp2_with fail
    refine⟨trivial,fun h=>(by cases h),?_⟩
    refine(callsIn_wide.2 (hm.out _ (hs.ext (ext_alloc _ _)))).mono ?_
    rintro e w1 ⟨rfl,hw1⟩
    obtain⟨hcw1,hfw1⟩:=bcell hw1
    have hzw1:=bsize hw1
    (try simp only[World.size_alloc,World.size_setCell,World.size_drew,World.heap_drewN]at hcw1 hfw1 hzw1)
    have hx1:=ext_trans (ext_alloc _ _) hw1
    have l1:W.heap.size < w1.heap.size:=by omega
    gi_wp2_with fail
    refine⟨trivial,fun h=>(by cases h),?_⟩
    refine(callsIn_wide.2 (hh.out _)).mono ?_
    rintro e w2 ⟨rfl,hw2⟩
    obtain⟨hcw2,hfw2⟩:=bcell hw2
    have hzw2:=bsize hw2
    (try simp only[World.size_alloc,World.size_setCell,World.size_drew,World.heap_drewN]at hcw2 hfw2 hzw2)
    have hx2:=ext_trans hx1 hw2
    have l2:W.heap.size < w2.heap.size:=by omega
    gi_wp2_with fail
    refine⟨trivial,fun h=>(by cases h),?_⟩
    refine(callsIn_wide.2 (hct.out _ ((hs.ext hx2).ext (ext_trans (ext_alloc _ _) (ext_alloc _ _))))).mono ?_
    rintro e w3 ⟨rfl,hw3⟩
    obtain⟨hcw3,hfw3⟩:=bcell hw3
    have hzw3:=bsize hw3
    (try simp only[World.size_alloc,World.size_setCell,World.size_drew,World.heap_drewN]at hcw3 hfw3 hzw3)
    have hx3:=ext_trans hx2 (ext_trans (ext_trans (ext_alloc _ _) (ext_alloc _ _)) hw3)
    gi_wp2_with fail
    go_ret
    exact .inl ⟨rfl,by simpa using hL.ext _ _ _ hj hx3,hL.kp hj hx3⟩
end
end
section
open Go.Proofs Go.Shelf
attribute [local go_sem] Oper.semAt_some
theorem walk_any (p:Pfx)(uo:Option Addr)(k ucap:Nat)(w:World):
 Calls Tryz.prog 244 #[p.v,.slice uo k ucap] w fun e w'=>e= .returned (.func (.func 292) #[] #[.pointer (some ⟨w.heap.size,0,none⟩),.pointer (some ⟨w.heap.size+1,0,none⟩)])∧
  w'=(w.alloc (.cells #[.int .i64 p.at_,.int .i64 p.len] 32)).alloc (.cells #[.slice uo k ucap] 149):=by
 unfold Pfx.v
 go_enter Tryz.func244,Tryz.ntmps244
 go_wp2_with fail
 go_ret
 exact⟨rfl,rfl⟩
theorem abides_ext {β:Type}{B:Nat}{J:β→World→Prop}(h:AbidesFrom B J):∀s X Y,J s X→Ext X Y→J s Y:=fun s X Y hj hx=>
 h s X Y none hj ⟨hx.os,hx.tape,hx.output,hx.size,fun b hb _=>hx.block b hb⟩ (fun r e=>by cases e)
def KG (own:World→Nat→Prop)(G:World→Prop)(W W':World):Prop:=G W→KP own W W'∧G W'
theorem walk1_in (own:World→Nat→Prop)(G:World→Prop)(l n₀ b1 b2:Nat)(us:List Pfx)(uo:Option Addr)(ucap:Nat)(p:Pfx)(n:Nat)(hn:16 - p.len=(n:Int))(hr:p.right=true)(J Jx:List Pfx→World→Prop)
 (m:Nat) (hL:LoopOK own n₀ (holesF us n p).length l J Jx) (W:World) (c0:W.cell? ⟨b1,0,none⟩=some (.int .i64 p.at_)) (c1:W.cell? ⟨b1,1,none⟩=some (.int .i64 p.len)) (c2:W.cell? ⟨b2,0,none⟩=some (.slice uo us.length ucap))
 (hs:Sl (fun b=>b < n₀) W 2 Pfx.R uo ucap us) (h0:J [] W):
 CallsIn Fence.wide m Tryz.prog 292 #[.func (.yield l) #[] #[],.pointer (some ⟨b1,0,none⟩),.pointer (some ⟨b2,0,none⟩)] W fun e W'=>(∃v,e= .returned v)∧
  ((∃ys,ys=holesF us n p∧J ys W')∨(∃pre,pre <+:holesF us n p∧Jx pre W')):=by
 have hd:=down_in own l n₀ (holesF us n p).length us uo ucap J Jx hL n p (m - 1) [] W hn hr hs h0 (by simp)
 simp only[Pfx.v]at hd
 replace hd:=Lib.hid hd
 clear hL hn hr
 refine callsIn_of_wp Tryz.func292 rfl trivial ?_ rfl
 simp only[Tryz.ntmps292,List.size_toArray,List.length_cons,List.length_nil,Nat.reduceAdd,Nat.reduceSub,Array.replicate_succ,Array.replicate_zero,List.push_toArray,List.append_toArray,List.nil_append,List.cons_append]
 gi_wp2_with fail
 refine⟨trivial,fun h=>(by cases h),?_⟩
 refine hd.out.mono ?_
 rintro e w1 (⟨rfl,hj,hk⟩|⟨rfl,q,hq,hx⟩)
 ·gi_wp2_with fail
  go_end0
  exact⟨⟨_,rfl⟩,.inl ⟨_,rfl,by simpa using hj⟩⟩
 ·gi_wp2_with fail
  go_end0
  exact⟨⟨_,rfl⟩,.inr ⟨q,hq,by simpa using hx⟩⟩
theorem walk_stops (own:World→Nat→Prop)(G:World→Prop)(m n₀ b1 b2:Nat)(us:List Pfx)(uo:Option Addr)(ucap:Nat)(p:Pfx)(n:Nat)(hn:16 - p.len=(n:Int))(hr:p.right=true)(w:World)
 (hG0:G w) (hG1:∀A b,G A→own A b→n₀≤b∧b < A.heap.size) (hG2:∀A B b,G A→Ext A B→own B b→own A b) (hG3:∀A B,G A→Ext A B→G B)
 (c0:w.cell? ⟨b1,0,none⟩=some (.int .i64 p.at_)) (c1:w.cell? ⟨b1,1,none⟩=some (.int .i64 p.len)) (c2:w.cell? ⟨b2,0,none⟩=some (.slice uo us.length ucap))
 (hs:Sl (fun b=>b < n₀) w 2 Pfx.R uo ucap us):
 SeqStopsK Fence.wide m Tryz.prog 292 #[.pointer (some ⟨b1,0,none⟩),.pointer (some ⟨b2,0,none⟩)] (fun x:Pfx=>#[x.v]) (KG own G) (fun ys=>ys=holesF us n p) (fun pre=>pre <+:holesF us n p) (holesF us n p).length w:=by
 intro l J Jx W hW hJ hJx hY h0
 have hL:LoopOK own n₀ (holesF us n p).length l (fun s A=>J s A∧G A) Jx:=by
  refine⟨fun s A B h hx=>⟨abides_ext hJ s A B h.1 hx,hG3 A B h.2 hx⟩,fun s A B h hx=>abides_ext hJx s A B h hx,fun s A b h ho=>hG1 A b h.2 ho,fun s A B b h hx ho=>hG2 A B b h.2 hx ho,fun m' pre x W1 h hl=>?_⟩
  refine YieldAt.mono (YieldAt.anyDepth rfl m' (hY pre x W1 h.1 hl)) fun e W2 h2=>?_
  rcases h2 with⟨he,hj,hk⟩|h2
  ·exact .inl ⟨he,⟨hj,(hk h.2).2⟩,(hk h.2).1⟩
  ·exact .inr h2
 refine(walk1_in own G l n₀ b1 b2 us uo ucap p n hn hr (fun s A=>J s A∧G A) Jx m hL W (keepCell hW c0) (keepCell hW c1) (keepCell hW c2) (hs.ext hW) ⟨h0,hG3 _ _ hG0 hW⟩).mono ?_
 rintro e W' ⟨hv,⟨ys,hy,hj⟩|h⟩
 ·exact⟨hv,.inl ⟨ys,hy,hj.1⟩⟩
 ·exact⟨hv,.inr h⟩
end
section
open Go.Proofs
def usedOK (root:Pfx):Int→List Pfx→Bool
 |_,[]=>true
 |free,p::ps=>insQ p root&&(decide (free≤p.at_)&&usedOK root (p.at_+szI p.len) ps)
theorem usedOK_cons (root:Pfx)(f:Int)(p:Pfx)(ps:List Pfx):usedOK root f (p::ps)=(insQ p root&&(decide (f≤p.at_)&&usedOK root (p.at_+szI p.len) ps)):=rfl
def chkS (root:Pfx)(us:List Pfx):Int:=if us.length>32 then 2 else if chk root.at_ root.len=0 then (if usedOK root root.at_ us then 0 else 1)else 1
theorem insP_right {a l b m:Int}(h:insP a l b m=true):rightB a l=true:=by
 unfold insP at h;simp at h;exact h.1.1.1
theorem spaceCheck_any {A:Area}(root:Pfx)(us:List Pfx)(uo:Option Addr)(ucap:Nat)(w:World)(h:Sl A w 2 Pfx.R uo ucap us):
 Calls Tryz.prog 88 #[.agg #[.int .i64 root.at_,.int .i64 root.len,.slice uo us.length ucap]] w fun e w'=>e= .returned (.int .i64 (chkS root us))∧Ext w w':=by
 have hcl:=h.cap_le
 have hcm:=h.cap_max
 by_cases h32:us.length>32
 ·have hr:chkS root us=2:=by unfold chkS;rw[if_pos h32]
  rw[hr]
  have hI:(32:Int) < (us.length:Int):=by omega
  clear hr h32
  go_enter Tryz.func88,Tryz.ntmps88
  go_wp2_with fail
  go_ret
  refine⟨rfl,Bel.bel (B:=_) ?_⟩
  (repeat(first|with_reducible assumption|with_reducible exact Bel.refl _|with_reducible refine Bel.alloc ?_ _|with_reducible refine Bel.drewN ?_ _|with_reducible refine Bel.drew ?_|(with_reducible refine Bel.setCell0 ?_ ?_ _;rotate_left;(first|omega|(simp;done)|(simp;omega)))|(with_reducible refine Bel.setCell ?_ (p:=_) ?_ _;rotate_left;(first|(simp;done)|omega|(simp;omega)))|refine Bel.call ?_ (by assumption)|(refine EX.bel ?_ (by assumption) ?_;rotate_left;(first|omega|(simp;omega)))))
 ·have hI:(us.length:Int)≤32:=by omega
  have hck:=check_any root.at_ root.len
  by_cases hc:chk root.at_ root.len=0
  ·obtain⟨r,hr⟩:∃r,r=chkS root us:=⟨_,rfl⟩
   rw[←hr]
   have hr2:r=if usedOK root root.at_ us then 0 else 1:=by rw[hr];unfold chkS;rw[if_neg h32,if_pos hc]
   rw[hc]at hck
   clear hr hc h32
   replace hr:=Lib.hid hr2
   clear hr2
   replace hck:=Lib.hid hck
   go_enter Tryz.func88,Tryz.ntmps88
   go_wp2_with fail
   refine(hck.out _).mono ?_
   rintro e w1 ⟨rfl,hw1⟩
   obtain⟨hcw1,hfw1⟩:=bcell hw1
   have hzw1:=bsize hw1
   (try simp only[World.size_alloc,World.size_setCell,World.size_drew,World.heap_drewN]at hcw1 hfw1 hzw1)
   have l1:w.heap.size < w1.heap.size:=by omega
   go_wp2_with fail
   go_loopw [3,20] (fun s3 s20 wr=>∃(k:Nat) (f:Int),k≤us.length∧s20= .int .i64 k∧s3= .int .i64 f∧Hid (usedOK root root.at_ us=usedOK root f (us.drop k))∧Ext w1 wr) (fun _ s20 _=>us.length - (intOf s20).toNat)
   case atStart=>exact⟨0,root.at_,Nat.zero_le _,rfl,rfl,Lib.hid rfl,Below.refl _ _⟩
   case round=>
    obtain⟨k,f,hk,rfl,rfl,hu,hx⟩:=hrel
    have hbel:Bel w.heap.size w wr:=(((Bel.refl w).alloc _).call hw1).call hx
    obtain⟨hcr,hfr⟩:=bcell hx
    have hzr:=bsize hx
    have lr:w.heap.size < wr.heap.size:=by omega
    by_cases hlt:k < us.length
    ·have hltI:(k:Int) < (us.length:Int):=by omega
     have hdrop:us.drop k=us[k]::us.drop (k+1):=List.drop_eq_getElem_cons hlt
     rw[hdrop]at hu
     clear hdrop
     obtain⟨b,off,cs,rfl,-,hlen,hR,hcs⟩:=h.elem k hlt
     replace hcs:=cellsAt_ext (ext_trans (ext_trans (ext_alloc _ _) hw1) hx) hcs
     unfold Pfx.R at hR
     subst hR
     obtain⟨k0,k1⟩:=cellsAt_2 hcs
     have lb:=lt_of_cell k0
     obtain⟨p,hp⟩:∃p,p=us[k]:=⟨_,rfl⟩
     rw[←hp]at k0 k1 hu
     clear hcs hp h
     have hin:=inside_any p.at_ p.len root.at_ root.len
     obtain⟨q,hq⟩:∃q,q=insP p.at_ p.len root.at_ root.len:=⟨_,rfl⟩
     rw[←hq]at hin
     have hu2:usedOK root root.at_ us=(q&&(decide (f≤p.at_)&&usedOK root (p.at_+szI p.len) (us.drop (k+1)))):=by rw[hu.out,usedOK_cons,hq];rfl
     clear hu
     cases q
     case false=>
      have hret:r=1:=by rw[hr.out,hu2];rfl
      replace hret:=Lib.hid hret
      clear hu2 hr hq
      replace hin:=Lib.hid hin
      go_wp2_with fail
      refine(hin.out _).mono ?_
      rintro e w2 ⟨rfl,hw2⟩
      obtain⟨hcw2,hfw2⟩:=bcell hw2
      have hzw2:=bsize hw2
      (try simp only[World.size_alloc,World.size_setCell,World.size_drew,World.heap_drewN]at hcw2 hfw2 hzw2)
      go_wp2_with fail
      go_ret
      refine⟨ret_int hret.out.symm,Bel.bel (B:=_) ?_⟩
      (repeat(first|with_reducible assumption|with_reducible exact Bel.refl _|with_reducible refine Bel.alloc ?_ _|with_reducible refine Bel.drewN ?_ _|with_reducible refine Bel.drew ?_|(with_reducible refine Bel.setCell0 ?_ ?_ _;rotate_left;(first|omega|(simp;done)|(simp;omega)))|(with_reducible refine Bel.setCell ?_ (p:=_) ?_ _;rotate_left;(first|(simp;done)|omega|(simp;omega)))|refine Bel.call ?_ (by assumption)|(refine EX.bel ?_ (by assumption) ?_;rotate_left;(first|omega|(simp;omega)))))
     case true=>
      have hrp:=insP_right hq.symm
      obtain⟨g1,g2,g3,g4,-⟩:=right_bd hrp
      obtain⟨z1,z2⟩:=szI_bd g1
      have hsz:=size_any p.at_ p.len
      rw[sizeI_right hrp]at hsz
      have hwr:IntKind.i64.wrap (p.at_+szI p.len)=p.at_+szI p.len:=IntWalk.i64_in _ (by omega)
      replace hin:=Lib.hid hin
      replace hsz:=Lib.hid hsz
      clear hq hrp
      by_cases hf:f≤p.at_
      ·have hu3:usedOK root root.at_ us=usedOK root (p.at_+szI p.len) (us.drop (k+1)):=by rw[hu2];simp[hf]
       clear hu2
       replace hu3:=Lib.hid hu3
       go_wp2_with fail
       refine(hin.out _).mono ?_
       rintro e w2 ⟨rfl,hw2⟩
       obtain⟨hcw2,hfw2⟩:=bcell hw2
       have hzw2:=bsize hw2
       (try simp only[World.size_alloc,World.size_setCell,World.size_drew,World.heap_drewN]at hcw2 hfw2 hzw2)
       have l2:w.heap.size < w2.heap.size:=by omega
       have l3:wr.heap.size < w2.heap.size:=by omega
       go_wp2_with fail
       refine region_mix (by kernel_rfl) (by kernel_rfl) (fun _ _ d _ _ h=>by cases d<;>exact h) ?_
       repeat(first|((first|refine mix_skip_t rfl rfl rfl (by with_reducible rfl) ?_|refine mix_skip_f rfl rfl rfl (by with_reducible rfl) ?_|refine mix_skip_u rfl rfl rfl (by with_reducible rfl) ?_);simp only[Act.put,List.setIfInBounds_toArray,List.set_cons_zero,List.set_cons_succ])|(apply mix_take;(first|exact want_0 rfl|exact want_b rfl rfl rfl (by with_reducible rfl));intro wq hwq R hR;((have hcc:=(bcell hwq).1;(try simp only[World.size_alloc,World.size_setCell,World.size_drew,World.heap_drewN]at hcc));go_simp;first|exact hR|((go_at_call 176;exact mcall (hsz.out _) hR)));simp only[Act.put,List.setIfInBounds_toArray,List.set_cons_zero,List.set_cons_succ]))
       refine mix_nil ?_
       intro w3 hw3
       obtain⟨hcw3,hfw3⟩:=bcell hw3
       have hzw3:=bsize hw3
       (try simp only[World.size_alloc,World.size_setCell,World.size_drew,World.heap_drewN]at hcw3 hfw3 hzw3)
       go_wp2_with fail
       go_roundw
       case rel=>exact⟨k+1,_,by omega,by go_num,rfl,hu3,ext_trans hx (ext_trans (ext_trans (ext_alloc _ _) hw2) hw3)⟩
       case measure=>simp[intOf];omega
      ·have hret:r=1:=by rw[hr.out,hu2];simp[hf]
       replace hret:=Lib.hid hret
       have hf':p.at_ < f:=by omega
       clear hu2 hr hf
       go_wp2_with fail
       refine(hin.out _).mono ?_
       rintro e w2 ⟨rfl,hw2⟩
       obtain⟨hcw2,hfw2⟩:=bcell hw2
       have hzw2:=bsize hw2
       (try simp only[World.size_alloc,World.size_setCell,World.size_drew,World.heap_drewN]at hcw2 hfw2 hzw2)
       have l2:w.heap.size < w2.heap.size:=by omega
       have l3:wr.heap.size < w2.heap.size:=by omega
       go_wp2_with fail
       go_ret
       refine⟨ret_int hret.out.symm,Bel.bel (B:=_) ?_⟩
       (repeat(first|with_reducible assumption|with_reducible exact Bel.refl _|with_reducible refine Bel.alloc ?_ _|with_reducible refine Bel.drewN ?_ _|with_reducible refine Bel.drew ?_|(with_reducible refine Bel.setCell0 ?_ ?_ _;rotate_left;(first|omega|(simp;done)|(simp;omega)))|(with_reducible refine Bel.setCell ?_ (p:=_) ?_ _;rotate_left;(first|(simp;done)|omega|(simp;omega)))|refine Bel.call ?_ (by assumption)|(refine EX.bel ?_ (by assumption) ?_;rotate_left;(first|omega|(simp;omega)))))
    ·have hltI:¬(k:Int) < (us.length:Int):=by omega
     obtain rfl:k=us.length:=by omega
     have hret:r=0:=by rw[hr.out,hu.out,List.drop_length];rfl
     replace hret:=Lib.hid hret
     clear hr hu
     go_wp2_with fail
     go_ret
     exact⟨ret_int hret.out.symm,hbel.bel⟩
  ·have hr:chkS root us=1:=by unfold chkS;rw[if_neg h32,if_neg hc]
   rw[hr]
   obtain⟨c,hcc⟩:∃c,c=chk root.at_ root.len:=⟨_,rfl⟩
   rw[←hcc]at hck
   have hne:(c !=0)=true:=by rw[hcc];simpa using hc
   clear hr h32 hc hcc
   replace hck:=Lib.hid hck
   go_enter Tryz.func88,Tryz.ntmps88
   go_wp2_with fail
   refine(hck.out _).mono ?_
   rintro e w1 ⟨rfl,hw1⟩
   obtain⟨hcw1,hfw1⟩:=bcell hw1
   have hzw1:=bsize hw1
   (try simp only[World.size_alloc,World.size_setCell,World.size_drew,World.heap_drewN]at hcw1 hfw1 hzw1)
   go_wp2_with fail
   go_ret
   refine⟨rfl,Bel.bel (B:=_) ?_⟩
   (repeat(first|with_reducible assumption|with_reducible exact Bel.refl _|with_reducible refine Bel.alloc ?_ _|with_reducible refine Bel.drewN ?_ _|with_reducible refine Bel.drew ?_|(with_reducible refine Bel.setCell0 ?_ ?_ _;rotate_left;(first|omega|(simp;done)|(simp;omega)))|(with_reducible refine Bel.setCell ?_ (p:=_) ?_ _;rotate_left;(first|(simp;done)|omega|(simp;omega)))|refine Bel.call ?_ (by assumption)|(refine EX.bel ?_ (by assumption) ?_;rotate_left;(first|omega|(simp;omega)))))
end
section
open Go.Proofs Go.Shelf
attribute [local go_sem] Oper.semAt_some
def holesS (root:Pfx)(us:List Pfx):List Pfx:=holesF us (16 - root.len).toNat root
@[go_sem] def Pfx.zero:Pfx:=⟨0,0⟩
def fitS (root:Pfx)(us:List Pfx)(size:Int):Pfx × Bool × Int:=
 if chkS root us=0 then
  (if size < root.len∨16 < size then (Pfx.zero,false,3)else match (holesS root us).find? (fun q=>decide (q.len≤size))with|some q=>(⟨q.at_,size⟩,true,0)|none=>(Pfx.zero,false,0))
 else (Pfx.zero,false,chkS root us)
def blk (W:World)(b:Nat)(cs:Array Value)(t:TypeId):Prop:=W.heap[b]? =some (.cells cs t (0,0))
theorem blk_kept {A B:World}{row:Option Nat}{b:Nat}{cs:Array Value}{t:TypeId}(h:blk A b cs t)(hg:A.grownBy B row)(hr:∀r,row=some r→∃o:Obj,A.heap[r]? =some o∧o.isCells=false):blk B b cs t:=
 (hg.block b (lt_of_block h) (fun e=>by obtain⟨o,ho,hc⟩:=hr b e.symm;rw[show A.heap[b]? =_ from h]at ho;cases ho;cases hc)).trans h
theorem blk_ext {A B:World}{b:Nat}{cs:Array Value}{t:TypeId}(h:blk A b cs t)(hx:Ext A B):blk B b cs t:=block_ext hx h
theorem blk_cell {W:World}{b o:Nat}{cs:Array Value}{t:TypeId}{v:Value}(h:blk W b cs t)(hv:cs[o]? =some v):W.cell? ⟨b,o,none⟩=some v:=cell_of_block h hv
theorem blk_free {W:World}{b o:Nat}{cs:Array Value}{t:TypeId}(h:blk W b cs t):W.frozen? ⟨b,o,none⟩=false:=free_of_block h
theorem blk_set {W:World}{b o:Nat}{cs:Array Value}{t:TypeId}(h:blk W b cs t)(v:Value):blk (W.setCell ⟨b,o,none⟩ v) b (cs.setIfInBounds o v) t:=block_setCell h v
theorem blk_other {W:World}{b c o:Nat}{cs:Array Value}{t:TypeId}(h:blk W b cs t)(hne:c≠b)(v:Value):blk (W.setCell ⟨c,o,none⟩ v) b cs t:=(block_setCell_ne v hne).trans h
theorem Sl.inW {α:Type}{A:Area}{w:World}{k:Nat}{R:List Value→α→Prop}{ao:Option Addr}{cap:Nat}{l:List α}(h:Sl A w (k+1) R ao cap l):Sl (fun b=>b < w.heap.size) w (k+1) R ao cap l:=by
 refine⟨h.cap_le,h.cap_max,fun i hi=>?_⟩
 obtain⟨b,off,cs,h1,h2,h3,h4,h5⟩:=h.elem i hi
 exact⟨b,off,cs,h1,lt_of_cell (h5 0 (by omega)),h3,h4,h5⟩
theorem KG_t {own:World→Nat→Prop}{G:World→Prop}{A B C:World}(h:KG own G A B)(k:KG own G B C):KG own G A C:=fun g=>⟨(h g).1.trans (k (h g).2).1,(k (h g).2).2⟩
abbrev noOwn:World→Nat→Prop:=fun _ _=>False
abbrev noG:World→Prop:=fun _=>True
theorem KG_no {W W':World}(h:Ext W W'):KG noOwn noG W W':=fun _=>⟨KP.of h fun _ h=>h,trivial⟩
theorem KG_no_put {w:World}(W:World)(l:Nat)(o o':Obj)(_:w.heap.size≤l)(h:W.heap[l]? =some o)(hc:o.isCells=false)(_:o.isWalk=false):KG noOwn noG W (W.putObj l o'):=fun _=>
 ⟨⟨(grownBy_putObj' W l o').size,fun b c t f _ hb=>((grownBy_putObj' W l o').block b (lt_of_block hb) (fun e=>by cases e;rw[h]at hb;cases hb;cases hc)).trans hb,fun b _ ho=>ho⟩,trivial⟩
def FitI (w w1:World)(size:Int)(pre:List Pfx)(W:World):Prop:=
 ((∀y∈pre,decide (y.len≤size)=false)∧blk W (w.heap.size+1) #[.int .i64 size] 3∧blk W (w.heap.size+2) #[.int .i64 0,.int .i64 0] 32∧blk W (w.heap.size+3) #[.bool false] 4∧blk W (w.heap.size+4) #[.int .i64 0] 37∧w1.heap.size≤W.heap.size)∧Below w.heap.size w W
def FitX (w:World)(size:Int)(c:Code)(pre:List Pfx)(W:World):Prop:=
 (c= .ret∧∃q x,pre=q++[x]∧decide (x.len≤size)=true∧(∀y∈q,decide (y.len≤size)=false)∧blk W (w.heap.size+2) #[.int .i64 x.at_,.int .i64 size] 32∧blk W (w.heap.size+3) #[.bool true] 4∧blk W (w.heap.size+4) #[.int .i64 0] 37)∧Below w.heap.size w W
theorem fitI_own (w w1:World)(size:Int)(B:Nat)(hB:w.heap.size≤B):OwnFrom B (FitI w w1 size):=by
 intro s X Y row h hg hr
 obtain⟨⟨h1,h2,h3,h4,h5,h6⟩,h7⟩:=h
 have hr':∀r,row=some r→∃o:Obj,X.heap[r]? =some o∧o.isCells=false:=fun r e=>(hr r e).2
 exact⟨⟨h1,blk_kept h2 hg hr',blk_kept h3 hg hr',blk_kept h4 hg hr',blk_kept h5 hg hr',Nat.le_trans h6 hg.size⟩,h7.grown hg h7.size (fun k e=>Nat.le_trans hB (hr k e).1)⟩
theorem fitX_own (w:World)(size:Int)(c:Code)(B:Nat)(hB:w.heap.size≤B):OwnFrom B (FitX w size c):=by
 intro s X Y row h hg hr
 obtain⟨⟨h1,q,x,h2,h3,h4,h5,h6,h7⟩,h8⟩:=h
 have hr':∀r,row=some r→∃o:Obj,X.heap[r]? =some o∧o.isCells=false:=fun r e=>(hr r e).2
 exact⟨⟨h1,q,x,h2,h3,h4,blk_kept h5 hg hr',blk_kept h6 hg hr',blk_kept h7 hg hr'⟩,h8.grown hg h8.size (fun k e=>Nat.le_trans hB (hr k e).1)⟩
def fitAct (w w1:World)(root:Pfx)(uo:Option Addr)(n ucap:Nat)(size:Int)(x:Pfx)(Bx:Nat):Act:=
 {tmps:=#[.agg #[.int .i64 root.at_,.int .i64 root.len,.slice uo n ucap],.int .i64 size,.pointer (some ⟨w.heap.size,0,none⟩),.pointer (some ⟨w.heap.size+1,0,none⟩),.pointer (some ⟨w.heap.size+1+1,0,none⟩),.pointer (some ⟨w.heap.size+1+1+1,0,none⟩),.pointer (some ⟨w.heap.size+1+1+1+1,0,none⟩),.int .i64 0,.pointer (some ⟨Bx,0,none⟩),
  .agg #[.int .i64 root.at_,.int .i64 root.len,.slice uo n ucap],.int .i64 0,.int .i64 0,.bool false,undef,undef,.int .i64 size,.pointer (some ⟨w.heap.size,0,none⟩),.pointer (some ⟨w.heap.size,1,none⟩),.int .i64 root.len,.bool false,.bool false,.int .i64 size,.bool false,.bool false,undef,.pointer (some ⟨w.heap.size,0,none⟩),.agg #[.int .i64 root.at_,.int .i64 root.len],.pointer (some ⟨w.heap.size,2,none⟩),.slice uo n ucap,
  .func (.func 292) #[] #[.pointer (some ⟨w1.heap.size,0,none⟩),.pointer (some ⟨w1.heap.size+1,0,none⟩)],.agg #[.int .i64 x.at_,.int .i64 x.len],undef,undef,undef,undef,undef,undef,undef,undef,undef],defers:=[]}
def FitAx (w w1:World)(root:Pfx)(uo:Option Addr)(n ucap:Nat)(size:Int)(x:Pfx)(a':Act)(W:World):Prop:=
 ∃Bx,w1.heap.size≤Bx∧blk W Bx #[.int .i64 x.at_,.int .i64 x.len] 32∧a'=fitAct w w1 root uo n ucap size x Bx
theorem fit_loop {A:Area}(root:Pfx)(us:List Pfx)(uo:Option Addr)(ucap:Nat)(size:Int)(w:World)(h:Sl A w 2 Pfx.R uo ucap us)(hck0:chkS root us=0)(h1:root.len≤size)(h2:size≤16):
 Calls Tryz.prog 201 #[.agg #[.int .i64 root.at_,.int .i64 root.len,.slice uo us.length ucap],.int .i64 size] w fun e w'=>
  e= .returned (.tuple #[(fitS root us size).1.v,.bool (fitS root us size).2.1,.int .i64 (fitS root us size).2.2])∧Ext w w':=by
 have hck:=fun W (h:Sl A W 2 Pfx.R uo ucap us)=>spaceCheck_any root us uo ucap W h
 rw[hck0]at hck
 replace hck:=Lib.hid hck
 have hwk:=fun W=>walk_any root uo us.length ucap W
 unfold Pfx.v at hwk
 replace hwk:=Lib.hid hwk
 refine(callsIn_wide (n:=3)).1 ?_
 refine callsIn_of_wp_marks Tryz.func201 rfl trivial ?_ rfl
 simp only[Tryz.ntmps201,List.size_toArray,List.length_cons,List.length_nil,Nat.reduceAdd,Nat.reduceSub,Array.replicate_succ,Array.replicate_zero,List.push_toArray,List.append_toArray,List.nil_append,List.cons_append]
 gi_wp2_with fail
 refine⟨trivial,?_⟩
 refine(callsIn_wide.2 (hck.out _ (h.ext (ext_trans (ext_alloc _ _) (ext_trans (ext_alloc _ _) (ext_trans (ext_alloc _ _) (ext_trans (ext_alloc _ _) (ext_alloc _ _)))))))).mono ?_
 rintro e w1 ⟨rfl,hw1⟩
 obtain⟨hcw1,hfw1⟩:=bcell hw1
 have hzw1:=bsize hw1
 (try simp only[World.size_alloc,World.size_setCell,World.size_drew,World.heap_drewN]at hcw1 hfw1 hzw1)
 have l1:w.heap.size < w1.heap.size:=by omega
 have l2:w.heap.size+1 < w1.heap.size:=by omega
 gi_wp2_with fail
 refine⟨trivial,?_⟩
 refine(callsIn_wide.2 (hwk.out _)).mono ?_
 rintro e w2 ⟨rfl,rfl⟩
 have b0:blk w1 w.heap.size #[.int .i64 root.at_,.int .i64 root.len,.slice uo us.length ucap] 151:=blk_ext (block_alloc (block_alloc (block_alloc (block_alloc (block_new' _ (by simp)))))) hw1
 have b1:blk w1 (w.heap.size+1) #[.int .i64 size] 3:=blk_ext (block_alloc (block_alloc (block_alloc (block_new' _ (by simp))))) hw1
 have b2:blk w1 (w.heap.size+2) #[.int .i64 0,.int .i64 0] 32:=blk_ext (block_alloc (block_alloc (block_new' _ (by simp)))) hw1
 have b3:blk w1 (w.heap.size+3) #[.bool false] 4:=blk_ext (block_alloc (block_new' _ (by simp))) hw1
 have b4:blk w1 (w.heap.size+4) #[.int .i64 0] 37:=blk_ext (block_new' _ (by simp)) hw1
 have hlo:decide (size < root.len)=false:=by simp;omega
 have hhi:decide (16 < size)=false:=by simp;omega
 gi_wp2_with fail
 have hx2:Ext w1 ((w1.alloc (.cells #[.int .i64 root.at_,.int .i64 root.len] 32)).alloc (.cells #[.slice uo us.length ucap] 149)):=ext_trans (ext_alloc _ _) (ext_alloc _ _)
 have hxx:Ext w w1:=ext_trans (ext_trans (ext_alloc _ _) (ext_trans (ext_alloc _ _) (ext_trans (ext_alloc _ _) (ext_trans (ext_alloc _ _) (ext_alloc _ _))))) hw1
 have hlen:16 - root.len=(((16 - root.len).toNat:Nat):Int):=by omega
 have hroot:root.right=true:=by
  unfold chkS at hck0
  split at hck0<;>(try split at hck0)<;>simp_all[Pfx.right,rightB]
 refine wpIn_rangeFunc_ownH rfl (by omega) (gf:=292) (lb:=#[.pointer (some ⟨w1.heap.size,0,none⟩),.pointer (some ⟨w1.heap.size+1,0,none⟩)]) rfl trivial (enters_of Tryz.func292 (by kernel_rfl) rfl)
  (walk_stops noOwn noG 2 w1.heap.size w1.heap.size (w1.heap.size+1) us uo ucap root _ hlen hroot _ trivial (fun _ _ _ h=>h.elim) (fun _ _ _ _ _ h=>h) (fun _ _ _ _=>trivial) (by simp) (by simp) (by simp) ((((h.ext hxx).inW).ext hx2))) KG_t (KG_no_put (w:=((w1.alloc (.cells #[.int .i64 root.at_,.int .i64 root.len] 32)).alloc (.cells #[.slice uo us.length ucap] 149)))) (Below.refl _ _) (fun _=>rfl)
  (FitI w w1 size) (FitX w size) (fitI_own w w1 size _ (by simp;omega)) (fun c=>fitX_own w size c _ (by simp;omega))
  ⟨⟨by simp,blk_ext b1 hx2,blk_ext b2 hx2,blk_ext b3 hx2,blk_ext b4 hx2,hx2.size⟩,(ext_trans hxx hx2).mono (Nat.le_refl _)⟩
  (FitAx w w1 root uo us.length ucap size) (fun x a'=>by
   intro s X Y row h hg hr
   obtain⟨Bx,h1,h2,h3⟩:=h
   exact⟨Bx,h1,blk_kept h2 hg (fun r e=>(hr r e).2),h3⟩) ?assign ?body ?done ?stop
 case assign=>
  intro l pre x W K hi hK
  have hi':=hi
  obtain⟨⟨-,-,-,-,-,hsz⟩,hB⟩:=hi'
  unfold Pfx.v
  gi_wp2
  refine hK _ _ ((KeepsOthers.alloc _ _).from _) (KG_no (ext_alloc _ _)) (fitI_own w w1 size w.heap.size (Nat.le_refl _) _ _ _ none hi (World.grownBy_alloc _ _ _) (fun r e=>by cases e)) ⟨W.heap.size,hsz,block_new _ _,rfl⟩
 case body=>
  rintro l pre x a' W hl ⟨r,hr⟩ hi ⟨Bx,hBx,bX,rfl⟩ hlt
  obtain⟨⟨hp,c1,c2,c3,c4,hsz⟩,hB⟩:=hi
  have x0:=blk_cell (o:=0) bX rfl
  have x1:=blk_cell (o:=1) bX rfl
  have s0:=blk_cell (o:=0) c1 rfl
  have p0:=blk_cell (o:=0) c2 rfl
  have p1:=blk_cell (o:=1) c2 rfl
  have q0:=blk_cell (o:=0) c3 rfl
  have r0:=blk_cell (o:=0) c4 rfl
  have f2:∀o,W.frozen? ⟨w.heap.size+2,o,none⟩=false:=fun o=>blk_free c2
  have f3:∀o,W.frozen? ⟨w.heap.size+3,o,none⟩=false:=fun o=>blk_free c3
  have f4:∀o,W.frozen? ⟨w.heap.size+4,o,none⟩=false:=fun o=>blk_free c4
  unfold fitAct
  cases hx:decide (x.len≤size)
  ·have Hx:=Lib.hid hx
   gi_wp2
   exact⟨(KeepsOthers.refl _).from _,KG_no (Below.refl _ _),⟨⟨fun y hy=>(List.mem_append.1 hy).elim (hp y) (fun e=>by simp at e;rw[e];exact Hx.out),c1,c2,c3,c4,hsz⟩,hB⟩⟩
  ·have Hx:=Lib.hid hx
   gi_wp2
   refine⟨((((KeepsOthers.setCell _ _ _).trans (KeepsOthers.setCell _ _ _)).trans (KeepsOthers.setCell _ _ _)).trans (KeepsOthers.setCell _ _ _)).from _,⟨⟨rfl,pre,x,rfl,Hx.out,hp,?_,?_,?_⟩,?_⟩⟩
   ·exact blk_other (blk_other (blk_set (blk_set c2 _) _) (by omega) _) (by omega) _
   ·exact blk_other (blk_set (blk_other (blk_other c3 (by omega) _) (by omega) _) _) (by omega) _
   ·exact blk_set (blk_other (blk_other (blk_other c4 (by omega) _) (by omega) _) (by omega) _) _
   ·exact(((hB.setCell (p:=⟨w.heap.size+2,0,none⟩) (by simp) _).setCell (p:=⟨w.heap.size+2,1,none⟩) (by simp) _).setCell (p:=⟨w.heap.size+3,0,none⟩) (by simp) _).setCell (p:=⟨w.heap.size+4,0,none⟩) (by simp) _
 case done=>
  rintro D ys W hD rfl ⟨⟨hne,c1,c2,c3,c4,hsz⟩,hB⟩ hK
  have p0:=blk_cell (o:=0) c2 rfl
  have p1:=blk_cell (o:=1) c2 rfl
  have q0:=blk_cell (o:=0) c3 rfl
  have r0:=blk_cell (o:=0) c4 rfl
  have f2:∀o,W.frozen? ⟨w.heap.size+2,o,none⟩=false:=fun o=>blk_free c2
  have f3:∀o,W.frozen? ⟨w.heap.size+3,o,none⟩=false:=fun o=>blk_free c3
  have f4:∀o,W.frozen? ⟨w.heap.size+4,o,none⟩=false:=fun o=>blk_free c4
  have hfit:fitS root us size=(Pfx.zero,false,0):=by
   unfold fitS
   rw[if_pos hck0,if_neg (by omega)]
   have:(holesS root us).find? (fun q=>decide (q.len≤size))=none:=by
    rw[List.find?_eq_none]
    intro q hq
    rw[hne q hq];simp
   rw[this]
  replace hfit:=Lib.hid hfit
  replace hne:=Lib.hid hne
  have hK':=((((KeepsOthers.setCell W ⟨w.heap.size+2,0,none⟩ (.int .i64 0)).trans (KeepsOthers.setCell _ ⟨w.heap.size+2,1,none⟩ (.int .i64 0))).trans (KeepsOthers.setCell _ ⟨w.heap.size+3,0,none⟩ (.bool false))).trans (KeepsOthers.setCell _ ⟨w.heap.size+4,0,none⟩ (.int .i64 0))).same D _ hK rfl
  have e2:=blk_kept (blk_other (c:=w.heap.size+4) (o:=0) (blk_other (c:=w.heap.size+3) (o:=0) (blk_set (o:=1) (blk_set (o:=0) c2 (.int .i64 0)) (.int .i64 0)) (by omega) (.bool false)) (by omega) (.int .i64 0)) (grownBy_putObj' _ D (.deferred none)) (fun r e=>by cases e;exact⟨_,hK',rfl⟩)
  have e3:=blk_kept (blk_other (c:=w.heap.size+4) (o:=0) (blk_set (o:=0) (blk_other (c:=w.heap.size+2) (o:=1) (blk_other (c:=w.heap.size+2) (o:=0) c3 (by omega) (.int .i64 0)) (by omega) (.int .i64 0)) (.bool false)) (by omega) (.int .i64 0)) (grownBy_putObj' _ D (.deferred none)) (fun r e=>by cases e;exact⟨_,hK',rfl⟩)
  have e4:=blk_kept (blk_set (o:=0) (blk_other (c:=w.heap.size+3) (o:=0) (blk_other (c:=w.heap.size+2) (o:=1) (blk_other (c:=w.heap.size+2) (o:=0) c4 (by omega) (.int .i64 0)) (by omega) (.int .i64 0)) (by omega) (.bool false)) (.int .i64 0)) (grownBy_putObj' _ D (.deferred none)) (fun r e=>by cases e;exact⟨_,hK',rfl⟩)
  have hB4:=((((hB.setCell (p:=⟨w.heap.size+2,0,none⟩) (by simp) (.int .i64 0)).setCell (p:=⟨w.heap.size+2,1,none⟩) (by simp) (.int .i64 0)).setCell (p:=⟨w.heap.size+3,0,none⟩) (by simp) (.bool false)).setCell (p:=⟨w.heap.size+4,0,none⟩) (by simp) (.int .i64 0)).trans (belowK_b (w:=w) (Nat.le_refl _) _ D _ (.deferred none) (by simp at hD;omega) hK' rfl rfl)
  gi_wp2
  refine⟨by simp,.inl ⟨_,_,rfl,run_takeDeferred hK',?_⟩⟩
  refine⟨.tuple #[Pfx.zero.v,.bool false,.int .i64 0],?_,by rw[hfit.out],hB4⟩
  have y0:=blk_cell (o:=0) e2 rfl
  have y1:=blk_cell (o:=1) e2 rfl
  have y2:=blk_cell (o:=0) e3 rfl
  have y3:=blk_cell (o:=0) e4 rfl
  unfold Pfx.zero Pfx.v
  simp[results,Tryz.f201,go_sem,y0,y1,y2,y3]
 case stop=>
  rintro D c pre W hD hpre ⟨⟨rfl,q,x,hq,hx,hn,c2,c3,c4⟩,hB⟩ hK
  have hfit:fitS root us size=(⟨x.at_,size⟩,true,0):=by
   unfold fitS
   rw[if_pos hck0,if_neg (by omega)]
   have:(holesS root us).find? (fun q=>decide (q.len≤size))=some x:=by
    obtain⟨r,hr⟩:=hpre
    unfold holesS
    rw[←hr,hq,List.append_assoc,List.find?_append]
    have h1:q.find? (fun q=>decide (q.len≤size))=none:=by
     rw[List.find?_eq_none]
     intro y hy
     rw[hn y hy];simp
    rw[h1]
    simp only[List.cons_append,List.find?_cons,hx,Option.none_or]
   rw[this]
  replace hfit:=Lib.hid hfit
  replace hn:=Lib.hid hn
  replace hq:=Lib.hid hq
  replace hpre:=Lib.hid hpre
  have e2:=blk_kept c2 (grownBy_putObj' _ D (.deferred none)) (fun r e=>by cases e;exact⟨_,hK,rfl⟩)
  have e3:=blk_kept c3 (grownBy_putObj' _ D (.deferred none)) (fun r e=>by cases e;exact⟨_,hK,rfl⟩)
  have e4:=blk_kept c4 (grownBy_putObj' _ D (.deferred none)) (fun r e=>by cases e;exact⟨_,hK,rfl⟩)
  have hB4:=hB.trans (belowK_b (w:=w) (Nat.le_refl _) _ D _ (.deferred none) (by simp at hD;omega) hK rfl rfl)
  gi_wp2
  refine⟨by simp,.inl ⟨_,_,rfl,run_takeDeferred hK,?_⟩⟩
  refine⟨.tuple #[Pfx.v ⟨x.at_,size⟩,.bool true,.int .i64 0],?_,by rw[hfit.out],hB4⟩
  have y0:=blk_cell (o:=0) e2 rfl
  have y1:=blk_cell (o:=1) e2 rfl
  have y2:=blk_cell (o:=0) e3 rfl
  have y3:=blk_cell (o:=0) e4 rfl
  unfold Pfx.v
  simp[results,Tryz.f201,go_sem,y0,y1,y2,y3]
theorem fit_any {A:Area}(root:Pfx)(us:List Pfx)(uo:Option Addr)(ucap:Nat)(size:Int)(w:World)(h:Sl A w 2 Pfx.R uo ucap us):
 Calls Tryz.prog 201 #[.agg #[.int .i64 root.at_,.int .i64 root.len,.slice uo us.length ucap],.int .i64 size] w fun e w'=>
  e= .returned (.tuple #[(fitS root us size).1.v,.bool (fitS root us size).2.1,.int .i64 (fitS root us size).2.2])∧Ext w w':=by
 by_cases h0:chkS root us=0
 ·by_cases h1:root.len≤size∧size≤16
  ·exact fit_loop root us uo ucap size w h h0 h1.1 h1.2
  ·have hf:fitS root us size=(Pfx.zero,false,3):=by unfold fitS;rw[if_pos h0,if_pos (by omega)]
   rw[hf]
   have hck:=fun W (h:Sl A W 2 Pfx.R uo ucap us)=>spaceCheck_any root us uo ucap W h
   rw[h0]at hck
   replace hck:=Lib.hid hck
   clear hf h0
   unfold Pfx.zero Pfx.v
   by_cases h2:size < root.len
   ·have hlo:decide (size < root.len)=true:=by simp[h2]
    clear h1
    go_enter Tryz.func201,Tryz.ntmps201
    go_wp2_with fail
    refine(hck.out _ (h.ext (ext_trans (ext_alloc _ _) (ext_trans (ext_alloc _ _) (ext_trans (ext_alloc _ _) (ext_trans (ext_alloc _ _) (ext_alloc _ _))))))).mono ?_
    rintro e w1 ⟨rfl,hw1⟩
    obtain⟨hcw1,hfw1⟩:=bcell hw1
    have hzw1:=bsize hw1
    (try simp only[World.size_alloc,World.size_setCell,World.size_drew,World.heap_drewN]at hcw1 hfw1 hzw1)
    go_wp2_with fail
    refine bodyPost_ret ?_ rfl ⟨rfl,Bel.bel (B:=_) ?_⟩
    ·simp[results,Tryz.results201,go_sem,hcw1]
    ·(repeat(first|with_reducible assumption|with_reducible exact Bel.refl _|with_reducible refine Bel.alloc ?_ _|with_reducible refine Bel.drewN ?_ _|with_reducible refine Bel.drew ?_|(with_reducible refine Bel.setCell0 ?_ ?_ _;rotate_left;(first|omega|(simp;done)|(simp;omega)))|(with_reducible refine Bel.setCell ?_ (p:=_) ?_ _;rotate_left;(first|(simp;done)|omega|(simp;omega)))|refine Bel.call ?_ (by assumption)|(refine EX.bel ?_ (by assumption) ?_;rotate_left;(first|omega|(simp;omega)))))
   ·have hlo:decide (size < root.len)=false:=by simp[h2]
    have hhi:decide (16 < size)=true:=by simp;omega
    clear h1
    go_enter Tryz.func201,Tryz.ntmps201
    go_wp2_with fail
    refine(hck.out _ (h.ext (ext_trans (ext_alloc _ _) (ext_trans (ext_alloc _ _) (ext_trans (ext_alloc _ _) (ext_trans (ext_alloc _ _) (ext_alloc _ _))))))).mono ?_
    rintro e w1 ⟨rfl,hw1⟩
    obtain⟨hcw1,hfw1⟩:=bcell hw1
    have hzw1:=bsize hw1
    (try simp only[World.size_alloc,World.size_setCell,World.size_drew,World.heap_drewN]at hcw1 hfw1 hzw1)
    go_wp2_with fail
    refine bodyPost_ret ?_ rfl ⟨rfl,Bel.bel (B:=_) ?_⟩
    ·simp[results,Tryz.results201,go_sem,hcw1]
    ·(repeat(first|with_reducible assumption|with_reducible exact Bel.refl _|with_reducible refine Bel.alloc ?_ _|with_reducible refine Bel.drewN ?_ _|with_reducible refine Bel.drew ?_|(with_reducible refine Bel.setCell0 ?_ ?_ _;rotate_left;(first|omega|(simp;done)|(simp;omega)))|(with_reducible refine Bel.setCell ?_ (p:=_) ?_ _;rotate_left;(first|(simp;done)|omega|(simp;omega)))|refine Bel.call ?_ (by assumption)|(refine EX.bel ?_ (by assumption) ?_;rotate_left;(first|omega|(simp;omega)))))
 ·have hf:fitS root us size=(Pfx.zero,false,chkS root us):=by unfold fitS;rw[if_neg h0]
  rw[hf]
  have hck:=fun W (h:Sl A W 2 Pfx.R uo ucap us)=>spaceCheck_any root us uo ucap W h
  obtain⟨c,hc⟩:∃c,c=chkS root us:=⟨_,rfl⟩
  rw[←hc]at hck h0 ⊢
  have hne:(c !=0)=true:=by simpa using h0
  replace hck:=Lib.hid hck
  clear hf h0 hc
  unfold Pfx.zero Pfx.v
  go_enter Tryz.func201,Tryz.ntmps201
  go_wp2_with fail
  refine(hck.out _ (h.ext (ext_trans (ext_alloc _ _) (ext_trans (ext_alloc _ _) (ext_trans (ext_alloc _ _) (ext_trans (ext_alloc _ _) (ext_alloc _ _))))))).mono ?_
  rintro e w1 ⟨rfl,hw1⟩
  obtain⟨hcw1,hfw1⟩:=bcell hw1
  have hzw1:=bsize hw1
  (try simp only[World.size_alloc,World.size_setCell,World.size_drew,World.heap_drewN]at hcw1 hfw1 hzw1)
  go_wp2_with fail
  refine bodyPost_ret ?_ rfl ⟨rfl,Bel.bel (B:=_) ?_⟩
  ·simp[results,Tryz.results201,go_sem,hcw1]
  ·(repeat(first|with_reducible assumption|with_reducible exact Bel.refl _|with_reducible refine Bel.alloc ?_ _|with_reducible refine Bel.drewN ?_ _|with_reducible refine Bel.drew ?_|(with_reducible refine Bel.setCell0 ?_ ?_ _;rotate_left;(first|omega|(simp;done)|(simp;omega)))|(with_reducible refine Bel.setCell ?_ (p:=_) ?_ _;rotate_left;(first|(simp;done)|omega|(simp;omega)))|refine Bel.call ?_ (by assumption)|(refine EX.bel ?_ (by assumption) ?_;rotate_left;(first|omega|(simp;omega)))))
end
section
open Go.Proofs
def Apart (a b:Pfx):Prop:=a.hi≤b.at_
theorem usedOK_iff (root:Pfx):∀(us:List Pfx) (f:Int),usedOK root f us=true↔(∀u∈us,insQ u root=true)∧(∀u∈us,f≤u.at_)∧us.Pairwise Apart
 |[],f=>by simp[usedOK]
 |p::ps,f=>by
  rw[usedOK_cons,Bool.and_eq_true,Bool.and_eq_true,decide_eq_true_eq,usedOK_iff root ps,List.pairwise_cons]
  constructor
  ·intro⟨h1,h2,h3,h4,h5⟩
   have hp:=p.hi_bd (insQ_hi.1 h1).1
   refine⟨?_,?_,⟨fun u hu=>h4 u hu,h5⟩⟩
   ·intro u hu;rcases List.mem_cons.1 hu with rfl|hu
    ·exact h1
    ·exact h3 u hu
   ·intro u hu;rcases List.mem_cons.1 hu with rfl|hu
    ·exact h2
    ·have:=h4 u hu;unfold Pfx.hi at hp;omega
  ·intro⟨h1,h2,h3,h4⟩
   exact⟨h1 p (by simp),h2 p (by simp),fun u hu=>h1 u (by simp[hu]),fun u hu=>h3 u hu,h4⟩
structure SpaceOK (root:Pfx)(us:List Pfx):Prop where
 rr:root.right=true
 many:us.length≤32
 ins:∀u∈us,insQ u root=true
 apart:us.Pairwise Apart
theorem chkS_ok {root:Pfx}{us:List Pfx}:chkS root us=0↔SpaceOK root us:=by
 unfold chkS
 constructor
 ·intro h
  split at h
  ·omega
  ·rename_i h1
   split at h
   ·rename_i h2
    split at h
    ·rename_i h3
     obtain⟨g1,g2,g3⟩:=(usedOK_iff root us _).1 h3
     exact⟨by simp[Pfx.right,rightB,h2],by omega,g1,g3⟩
    ·omega
   ·omega
 ·intro⟨h1,h2,h3,h4⟩
  have hc:chk root.at_ root.len=0:=by unfold Pfx.right rightB at h1;simpa using h1
  rw[if_neg (by omega),if_pos hc,if_pos ((usedOK_iff root us _).2 ⟨h3,fun u hu=>(insQ_hi.1 (h3 u hu)).2.2.1,h4⟩)]
end
section
open Go.Proofs
def freeP (us:List Pfx)(p:Pfx):Bool:=!us.any p.meets
theorem low_ins {p:Pfx}(h:p.right=true)(hl:p.len < 16):p.low.at_=p.at_∧p.low.hi=p.high.at_∧p.high.hi=p.hi∧p.at_ < p.high.at_∧p.high.at_ < p.hi:=by
 obtain⟨g1,-⟩:=p.bd h
 have e:=szI_half g1 hl
 have s1:=szI_bd (n:=p.len+1) (by omega)
 unfold Pfx.low Pfx.high Pfx.hi
 refine⟨rfl,rfl,?_,?_,?_⟩<;>simp<;>omega
theorem insQ_trans {a b c:Pfx}(h:insQ a b=true)(k:insQ b c=true):insQ a c=true:=by
 rw[insQ_hi]at*
 exact⟨h.1,k.2.1,by omega,by omega⟩
theorem ins_half {b p:Pfx}(h:insQ b p=true)(hl:p.len < b.len):insQ b p.low=true∨insQ b p.high=true:=by
 obtain⟨k1,k2,k3,k4⟩:=insQ_hi.1 h
 obtain⟨b1,b2,-⟩:=b.bd k1
 have hp16:p.len < 16:=by omega
 obtain⟨e1,e2,e3,e4,e5⟩:=low_ins k2 hp16
 have hb:=b.hi_bd k1
 rcases Int.lt_or_le b.at_ p.high.at_ with hlt|hle
 ·left
  rw[insQ_iff]
  exact⟨k1,low_right k2 hp16,by simp[Pfx.low];omega,by rw[e1];exact k3,by rw[e2];exact hlt⟩
 ·right
  rw[insQ_iff]
  exact⟨k1,high_right k2 hp16,by simp[Pfx.high];omega,hle,by rw[e3];omega⟩
theorem low_insQ {p:Pfx}(h:p.right=true)(hl:p.len < 16):insQ p.low p=true:=by
 obtain⟨e1,e2,e3,e4,e5⟩:=low_ins h hl
 exact insQ_hi.2 ⟨low_right h hl,h,by omega,by omega⟩
theorem high_insQ {p:Pfx}(h:p.right=true)(hl:p.len < 16):insQ p.high p=true:=by
 obtain⟨e1,e2,e3,e4,e5⟩:=low_ins h hl
 exact insQ_hi.2 ⟨high_right h hl,h,by omega,by omega⟩
theorem insQ_refl {p:Pfx}(h:p.right=true):insQ p p=true:=insQ_hi.2 ⟨h,h,by omega,by omega⟩
theorem hole_ins (us:List Pfx):∀(n:Nat) (p:Pfx),16 - p.len=(n:Int)→p.right=true→∀q∈holesF us n p,insQ q p=true∧freeP us q=true
 |0,p,hn,hr,q,hq=>by
  unfold holesF at hq
  split at hq
  ·cases hq
  ·rename_i h
   obtain rfl:q=p:=by simpa using hq
   exact⟨insQ_refl hr,by unfold freeP;simpa using h⟩
 |n+1,p,hn,hr,q,hq=>by
  unfold holesF at hq
  split at hq
  ·split at hq
   ·cases hq
   ·have hl:p.len < 16:=by omega
    rcases List.mem_append.1 hq with h|h
    ·have:=hole_ins us n p.low (by simp[Pfx.low];omega) (low_right hr hl) q h
     exact⟨insQ_trans this.1 (low_insQ hr hl),this.2⟩
    ·have:=hole_ins us n p.high (by simp[Pfx.high];omega) (high_right hr hl) q h
     exact⟨insQ_trans this.1 (high_insQ hr hl),this.2⟩
  ·rename_i h
   obtain rfl:q=p:=by simpa using hq
   exact⟨insQ_refl hr,by unfold freeP;simpa using h⟩
theorem hole_sorted (us:List Pfx):∀(n:Nat) (p:Pfx),16 - p.len=(n:Int)→p.right=true→(holesF us n p).Pairwise Apart
 |0,p,hn,hr=>by unfold holesF;split<;>simp
 |n+1,p,hn,hr=>by
  unfold holesF
  split
  ·split
   ·simp
   ·have hl:p.len < 16:=by omega
    have h1:=hole_sorted us n p.low (by simp[Pfx.low];omega) (low_right hr hl)
    have h2:=hole_sorted us n p.high (by simp[Pfx.high];omega) (high_right hr hl)
    refine List.pairwise_append.2 ⟨h1,h2,fun a ha b hb=>?_⟩
    have ka:=(insQ_hi.1 (hole_ins us n p.low (by simp[Pfx.low];omega) (low_right hr hl) a ha).1)
    have kb:=(insQ_hi.1 (hole_ins us n p.high (by simp[Pfx.high];omega) (high_right hr hl) b hb).1)
    obtain⟨e1,e2,e3,e4,e5⟩:=low_ins hr hl
    unfold Apart
    omega
  ·simp
theorem hole_all (us:List Pfx)(hu:∀u∈us,u.right=true):∀(n:Nat) (p:Pfx),16 - p.len=(n:Int)→p.right=true→∀b,insQ b p=true→freeP us b=true→∃h∈holesF us n p,insQ b h=true
 |n,p,hn,hr,b,hb,hf=>by
  have hbr:=(insQ_hi.1 hb).1
  have hbh:=b.hi_bd hbr
  by_cases hm:us.any p.meets=true
  ·have hnc:us.contains p=false:=by
    rw[Bool.eq_false_iff]
    intro hc
    have hp:p∈us:=by simpa using hc
    have:us.any b.meets=true:=List.any_eq_true.2 ⟨p,hp,meets_iff.2 ⟨hbr,hr,by have:=insQ_iff.1 hb;omega,by have:=insQ_iff.1 hb;omega⟩⟩
    unfold freeP at hf;rw[this]at hf;cases hf
   have hlen:p.len < b.len:=by
    have h3:=(insQ_iff.1 hb).2.2.1
    rcases Int.lt_or_eq_of_le h3 with h|h
    ·exact h
    ·exfalso
     have hi:=(insQ_hi.1 hb)
     have:b=p:=by
      obtain⟨ba,bl⟩:=b
      obtain⟨pa,pl⟩:=p
      simp only[Pfx.mk.injEq]
      simp only[Pfx.hi]at hi
      simp only at h
      subst h
      exact⟨by omega,rfl⟩
     subst this
     unfold freeP at hf;rw[hm]at hf;cases hf
   obtain⟨b1,b2,-⟩:=b.bd hbr
   have hl:p.len < 16:=by omega
   match n,hn with
   |0,hn=>omega
   |n+1,hn=>
    unfold holesF
    rw[if_pos hm,if_neg (by rw[hnc];simp)]
    rcases ins_half hb hlen with h|h
    ·obtain⟨q,hq,hi⟩:=hole_all us hu n p.low (by simp[Pfx.low];omega) (low_right hr hl) b h hf
     exact⟨q,List.mem_append.2 (.inl hq),hi⟩
    ·obtain⟨q,hq,hi⟩:=hole_all us hu n p.high (by simp[Pfx.high];omega) (high_right hr hl) b h hf
     exact⟨q,List.mem_append.2 (.inr hq),hi⟩
  ·refine⟨p,?_,hb⟩
   match n with
   |0=>unfold holesF;rw[if_neg hm];simp
   |n+1=>unfold holesF;rw[if_neg hm];simp
theorem holesS_ins {root:Pfx}{us:List Pfx}(h:SpaceOK root us){q:Pfx}(hq:q∈holesS root us):insQ q root=true∧freeP us q=true:=by
 obtain⟨g1,g2,-⟩:=root.bd h.rr
 exact hole_ins us _ root (by omega) h.rr q hq
theorem holesS_sorted {root:Pfx}{us:List Pfx}(h:SpaceOK root us):(holesS root us).Pairwise Apart:=by
 obtain⟨g1,g2,-⟩:=root.bd h.rr
 exact hole_sorted us _ root (by omega) h.rr
theorem holesS_all {root:Pfx}{us:List Pfx}(h:SpaceOK root us){b:Pfx}(hb:insQ b root=true)(hf:freeP us b=true):∃q∈holesS root us,insQ b q=true:=by
 obtain⟨g1,g2,-⟩:=root.bd h.rr
 exact hole_all us (fun u hu=>(insQ_hi.1 (h.ins u hu)).1) _ root (by omega) h.rr b hb hf
theorem free_sub {us:List Pfx}{a b:Pfx}(h:insQ a b=true)(hf:freeP us b=true):freeP us a=true:=by
 unfold freeP at*
 rw[Bool.not_eq_true']at*
 rw[List.any_eq_false]at*
 intro u hu hm
 obtain⟨k1,k2,k3,k4⟩:=insQ_hi.1 h
 obtain⟨m1,m2,m3,m4⟩:=meets_iff.1 hm
 exact hf u hu (meets_iff.2 ⟨k2,m2,by omega,by omega⟩)
end
theorem spCheck_p (root:Pfx)(us:List Pfx):PSpec Tryz.prog 88 [.agg (encS root us)] (.v (.int .i64 (chkS root us))):=by
 refine⟨fnok_of Tryz.func88 (by kernel_rfl) rfl,fun M w vs hM hG hds=>?_⟩
 obtain⟨v,vs,rfl,h1,hds⟩:=repDs_cons hds
 rw[repDs_nil hds]
 obtain⟨uo,cap,rfl,hs⟩:=repD_S h1
 exact(spaceCheck_any root us uo cap w hs).mono fun e w' ⟨he,hx⟩=>⟨_,he,.v _,hx⟩
theorem spFit_p (root:Pfx)(us:List Pfx)(size:Int):PSpec Tryz.prog 201 [.agg (encS root us),.v (.int .i64 size)] (.tup [.agg (encP (fitS root us size).1),.v (.bool (fitS root us size).2.1),.v (.int .i64 (fitS root us size).2.2)]):=by
 refine⟨fnok_of Tryz.func201 (by kernel_rfl) rfl,fun M w vs hM hG hds=>?_⟩
 obtain⟨v,vs,rfl,h1,hds⟩:=repDs_cons hds
 obtain⟨v,vs,rfl,h2,hds⟩:=repDs_cons hds
 rw[repDs_nil hds]
 obtain⟨uo,cap,rfl,hs⟩:=repD_S h1
 rw[repD_v h2]
 exact(fit_any root us uo cap size w hs).mono fun e w' ⟨he,hx⟩=>⟨_,he,flat_mk rfl rfl,hx⟩
def sortedI:List Int→Bool
 |a::b::l=>decide (a≤b)&&sortedI (b::l)
 |_=>true
theorem sortedI_at:∀(l:List Int),sortedI l=true↔∀j (h:j+1 < l.length),l[j]≤l[j+1]
 |[]=>by simp[sortedI]
 |[a]=>by simp[sortedI]
 |a::b::l=>by
  have ih:=sortedI_at (b::l)
  simp only[sortedI,Bool.and_eq_true,decide_eq_true_eq,ih]
  constructor
  ·rintro⟨h1,h2⟩ j hj
   cases j with
   |zero=>exact h1
   |succ j=>exact h2 j (by simpa using hj)
  ·intro h
   exact⟨h 0 (by simp),fun j hj=>h (j+1) (by simpa using hj)⟩
theorem isSorted_p (l:List Int)(hl:l.length≤1000000000)(h0:l≠[]):PSpec Tryz.prog 177 [.sl 1 (l.map fun n=>[encI n])] (.v (.bool (sortedI l))):=by
 have hpos:0 < l.length:=List.length_pos_iff.2 h0
 have hw0:IntKind.i64.wrap ((l.length:Int) - 1)=((l.length - 1:Nat):Int):=by rw[IntKind.wrap_i64];omega
 refine pj Tryz.func177 Tryz.ntmps177 Tryz.results177 ?_
 refine wk1 ?_<;>intros
 refine loopG tab_ok mixed (fun m e h=>∃i:Nat,i < l.length∧(∀j (h:j+1 < l.length),i≤j→l[j]≤l[j+1])∧m=i∧e=[(3,.d (.v (.int .i64 i))),(2,.d (.v (.bool false))),(0,.d (.sl 1 (l.map fun n=>[encI n])))]∧h=[]) _ _ _ ⟨l.length - 1,by omega,fun j h1 h2=>by omega,rfl,rfl,rfl⟩ ?_ ?_
 ·exact weak_forget [] (by simp) rfl ⟨rfl,rfl,rfl,trivial⟩ bl bl
 ·rintro m e h ⟨i,hi,hok,hm,rfl,rfl⟩ CL hCL
  by_cases hi0:0 < i
  ·obtain⟨x,hx⟩:∃x,l[i]? =some x:=⟨_,List.getElem?_eq_getElem hi⟩
   obtain⟨y,hy⟩:∃y,l[i - 1]? =some y:=⟨_,List.getElem?_eq_getElem (by omega)⟩
   have hxe:l[i]=x:=by rw[List.getElem?_eq_getElem hi]at hx;exact Option.some.inj hx
   have hye:l[i - 1]=y:=by rw[List.getElem?_eq_getElem (by omega)]at hy;exact Option.some.inj hy
   have hgt:decide ((i:Int)>0)=true:=by simpa using hi0
   have hw:IntKind.i64.wrap ((i:Int) - 1)=((i - 1:Nat):Int):=by rw[IntKind.wrap_i64];omega
   cases hlt:decide (x < y)with
   |true=>
    have hfalse:sortedI l=false:=by
     rw[Bool.eq_false_iff,ne_eq,sortedI_at]
     intro h
     have:=h (i - 1) (by omega)
     simp only[show i - 1+1=i by omega,hxe,hye]at this
     simp at hlt;omega
    have hls:=less_p x y
    rw[hlt]at hls
    exact wk0
    all_goals(rw[hfalse];exact DLe.refl _)
   |false=>
    have hls:=less_p x y
    rw[hlt]at hls
    refine wk1 ?_<;>intros
    refine hCL _ _ _ _ _ ?_ ⟨i - 1,by omega,?_,rfl,rfl,rfl⟩ (weak_forget [] (by simp) rfl ⟨rfl,rfl,rfl,trivial⟩ bl bl)
    ·omega
    ·intro j hj hij
     rcases Nat.lt_or_ge (i - 1) j with h1|h1
     ·exact hok j hj (by omega)
     ·obtain rfl:j=i - 1:=by omega
      simp only[show i - 1+1=i by omega,hxe,hye]
      simp at hlt;omega
  ·have hie:i=0:=by omega
   have htrue:sortedI l=true:=(sortedI_at l).2 fun j hj=>hok j hj (by omega)
   have hgt:decide ((i:Int)>0)=false:=by simp;omega
   replace hie:=Lib.hid hie
   exact wk0
   all_goals(rw[htrue];exact DLe.refl _)
def idOKB (n:Int):Bool:=decide (1≤n)&&decide (n≤65536)
theorem ids_p (n:Int):PSpec Tryz.prog 87 [.v (.int .i64 n)] (.v (.bool (idOKB n))):=by
 cases e1:decide (n≥1)with
 |true=>
  have h1:decide (1≤n)=true:=e1
  refine pj Tryz.func87 Tryz.ntmps87 Tryz.results87 ?_
  refine wk1 ?_<;>intros
  all_goals(unfold idOKB;rw[h1];exact DLe.refl _)
 |false=>
  have h1:decide (1≤n)=false:=e1
  refine pj Tryz.func87 Tryz.ntmps87 Tryz.results87 ?_
  refine wk1 ?_<;>intros
  all_goals(unfold idOKB;rw[h1];exact DLe.refl _)
def ruleOK (r:Rul)(len:Int):Bool:=sortedI [len,r.min,r.usual,r.max,16]&&(decide (0≤r.cool)&&decide (r.cool≤1024))
theorem rule_p (r:Rul)(root:Pfx):PSpec Tryz.prog 90 [.agg (encR r),.agg (encP root)] (.v (.bool (ruleOK r root.len))):=by
 have hs:=isSorted_p [root.len,r.min,r.usual,r.max,16] (by simp) (by simp)
 unfold ruleOK
 cases h0:sortedI [root.len,r.min,r.usual,r.max,16]with
 |false=>
  rw[h0]at hs
  refine pj Tryz.func90 Tryz.ntmps90 Tryz.results90 ?_
  exact wk0
  all_goals exact DLe.refl _
 |true=>
  rw[h0]at hs
  show PSpec _ _ _ (.v (.bool (true&&(decide (r.cool≥0)&&decide (r.cool≤1024)))))
  cases e1:decide (r.cool≥0)with
  |true=>
   refine pj Tryz.func90 Tryz.ntmps90 Tryz.results90 ?_
   exact wk0
   all_goals exact DLe.refl _
  |false=>
   refine pj Tryz.func90 Tryz.ntmps90 Tryz.results90 ?_
   exact wk0
   all_goals exact DLe.refl _
def usedP (p:Pol):List Pfx:=p.leases.map (·.at_)
theorem taken_p (p:Pol)(hb:p.leases.length≤3518437208882):PSpec Tryz.prog 89 [.ept (encPol p)] (.agg (encS p.root (usedP p))):=by
 refine pj Tryz.func89 Tryz.ntmps89 Tryz.results89 ?_
 refine wk1 ?_<;>intros
 refine loopG tab_ok mixed (fun m e h=>∃k g:Nat,k≤p.leases.length∧m=p.leases.length - k∧e=[(16,.d (.v (.int .i64 k))),(15,.d (.v (.int .i64 p.leases.length))),(14,.d (.sl 5 (p.leases.map encL))),(3,.ptr 1 0),(2,.ptr 0 0)]∧
  h=[.box 151 [.d (.v (.int .i64 0)),.d (.v (.int .i64 0)),.d (.v (.slice none 0 0))],.box 151 [.d (.v (.int .i64 p.root.at_)),.d (.v (.int .i64 p.root.len)),.own 2 g],.row 32 2 g (dRows (((usedP p).take k).map encP))]) _ _ _ ⟨0,0,Nat.zero_le _,rfl,rfl,rfl⟩ ?_ ?_
 ·exact(weak_adopt_box (by simp) 1 _ _ 2 _ _ rfl rfl rfl).trans (weak_forget [] (by simp) rfl ⟨rfl,rfl,rfl,rfl,rfl,trivial⟩ bl bl)
 ·rintro m e h ⟨k,g,hk,hm,rfl,rfl⟩ CL hCL
  by_cases hlt:k < p.leases.length
  ·obtain⟨l,hl⟩:∃l,p.leases[k]? =some l:=⟨_,List.getElem?_eq_getElem hlt⟩
   have hltI:(k:Int) < (p.leases.length:Int):=by omega
   have hwr:=wi k (by omega)
   have hbnd:(((usedP p).take k).length+1)*16≤140737488355328:=by rw[List.length_take,usedP,List.length_map];omega
   refine wk1 ?_<;>intros
   have hts:(usedP p).take (k+1)=(usedP p).take k++[l.at_]:=take_snoc (by rw[usedP,List.getElem?_map,hl];rfl)
   refine hCL _ _ _ _ _ ?_ ⟨k+1,g+1,hlt,rfl,rfl,rfl⟩ (weak_forget [.box 68 ((encL l).map .d)] (by simp) ?_ ⟨rfl,rfl,rfl,rfl,rfl,trivial⟩ bl bl)
   ·omega
   ·rw[hts,List.map_append];rfl
  ·obtain rfl:k=p.leases.length:=by omega
   refine wk1 ?_<;>intros
   rw[List.take_of_length_le (by simp[usedP])]
   all_goals exact DLe.refl _
theorem encL_len (p:Lse):(encL p).length=5:=rfl
theorem encPol_len (p:Pol):(encPol p).length=9:=rfl
theorem delete_Lease {α:Type}{enc:α→List D}(l:List α)(i j g:Nat)(hi:i < l.length)(hj:j=i+1):
 MSpec Tryz.prog 205 [.own 0 g,.d (.v (.int .i64 i)),.d (.v (.int .i64 j))] [.row 68 5 g (dRows (l.map enc))] (.own 0 (g+1)) [.row 68 5 (g+1) (dRows ((l.eraseIdx i).map enc))]:=by
 have h1:((i:Int)==(j:Int))=false:=by simp;omega
 have hne:¬dRows (l.map enc)=[]:=by cases l<;>simp[dRows]at hi ⊢
 have hle:(i:Int)≤(j:Int):=by omega
 have hle2:(j:Int)≤(l.length:Int):=by omega
 have hlm:(l.map enc).length=l.length:=List.length_map _
 have h2:=del_len (dRows (l.map enc)) i j l.length (by rw[dRows_len,hlm];exact hi) hj (by rw[dRows_len,hlm])
 rw[dRows_len,hlm]at h2
 have hj1:=Lib.hid hj
 clear hj
 have hj2:j≤l.length:=by have:=hj1.out;omega
 have hmin:min (l.length - j) (l.length - j)=l.length - j:=Nat.min_self _
 have hlt:i+(l.length - j)≤l.length:=by have:=hj1.out;omega
 have hk1:l.length - (i+(l.length - j))=1:=by have:=hj1.out;omega
 have hk2:i+(l.length - j)+1≤l.length:=by have:=hj1.out;omega
 have hne2:¬setAt (dRows (l.map enc)) i (((dRows (l.map enc)).drop j).take (l.length - j))=[]:=by
  intro h
  rw[h]at h2;simp at h2;omega
 refine mj Tryz.func205 Tryz.ntmps205 Tryz.results205 ?_
 repeat' (first|(with_reducible refine And.intro ?_ ?_)|(with_reducible refine gK_i (fun _=>?_) (fun _=>?_))|(with_reducible refine condS_i (fun _=>?_) (fun _=>?_))|(with_reducible refine drw_i (by kernel_rfl))|simp -dsimp only[go_sem,seval, *,h1,hne,Nat.sub_zero,List.length_take,List.length_drop]|((with_reducible refine opK_c ?_);simp -dsimp only[go_sem,seval,h1,hne,Nat.sub_zero,List.length_take,List.length_drop];first|refine callK_r (by first|assumption|fail) (by first|exact .inl rfl|exact .inr rfl) ?_|refine callK_i (by assumption) (by repeat(first|exact DLe.refl _|exact DLe.nil _|(refine DLe.tup ?_)|(refine DLe.agg ?_ rfl)|exact trivial|(refine And.intro ?_ ?_))) (by first|exact .inl rfl|exact .inr rfl) ?_)|omega|exact decide_eq_true (by omega)|exact DLe.refl _)
 rw[map_erase]
 exact del_weak (by rw[hlm];exact hi) hj1.out hlm.symm
theorem clone_Lease {α:Type}(enc:α→List D)(l:List α)(hl:l.length≤1000000000):
 MSpec Tryz.prog 51 [.d (.sl 5 (l.map enc))] [] (.own 0 1) [.row 68 5 1 (dRows (l.map enc))]:=by
 cases l with
 |nil=>
  refine ms_empty (pl:=[]) (ql:=[]) fun ao cap=>?_
  cases ao with
  |none=>
   simp only[List.nil_append]
   refine mj Tryz.func51 Tryz.ntmps51 Tryz.results51 ?_
   repeat' (first|(with_reducible refine And.intro ?_ ?_)|(with_reducible refine gK_i (fun _=>?_) (fun _=>?_))|(with_reducible refine condS_i (fun _=>?_) (fun _=>?_))|(with_reducible refine drw_i (by kernel_rfl))|simp -dsimp only[go_sem,seval, *,Option.isNone_none,Option.isSome_some]|((with_reducible refine opK_c ?_);simp -dsimp only[go_sem,seval,Option.isNone_none,Option.isSome_some];first|refine callK_r (by first|assumption|fail) (by first|exact .inl rfl|exact .inr rfl) ?_|refine callK_i (by assumption) (by repeat(first|exact DLe.refl _|exact DLe.nil _|(refine DLe.tup ?_)|(refine DLe.agg ?_ rfl)|exact trivial|(refine And.intro ?_ ?_))) (by first|exact .inl rfl|exact .inr rfl) ?_)|omega|exact decide_eq_true (by omega)|exact DLe.refl _)
   refine weak_ret_adopt (h:=[]) (Nat.le_refl _) 68 5 ?_
   exact(weak_ret_bump 0 0 68 5 [] rfl (weak_eq rfl rfl))
  |some a=>
   simp only[List.nil_append]
   refine mj Tryz.func51 Tryz.ntmps51 Tryz.results51 ?_
   repeat' (first|(with_reducible refine And.intro ?_ ?_)|(with_reducible refine gK_i (fun _=>?_) (fun _=>?_))|(with_reducible refine condS_i (fun _=>?_) (fun _=>?_))|(with_reducible refine drw_i (by kernel_rfl))|simp -dsimp only[go_sem,seval, *,Option.isNone_some,Option.isSome_some]|((with_reducible refine opK_c ?_);simp -dsimp only[go_sem,seval,Option.isNone_some,Option.isSome_some];first|refine callK_r (by first|assumption|fail) (by first|exact .inl rfl|exact .inr rfl) ?_|refine callK_i (by assumption) (by repeat(first|exact DLe.refl _|exact DLe.nil _|(refine DLe.tup ?_)|(refine DLe.agg ?_ rfl)|exact trivial|(refine And.intro ?_ ?_))) (by first|exact .inl rfl|exact .inr rfl) ?_)|omega|exact decide_eq_true (by omega)|exact DLe.refl _)
   exact weak_eq rfl rfl
 |cons x l=>
  simp only[List.length_cons]at hl
  refine mj Tryz.func51 Tryz.ntmps51 Tryz.results51 ?_
  repeat' (first|(with_reducible refine And.intro ?_ ?_)|(with_reducible refine gK_i (fun _=>?_) (fun _=>?_))|(with_reducible refine condS_i (fun _=>?_) (fun _=>?_))|(with_reducible refine drw_i (by kernel_rfl))|simp -dsimp only[go_sem,seval, *,Option.isNone_some,Option.isSome_some]|((with_reducible refine opK_c ?_);simp -dsimp only[go_sem,seval,Option.isNone_some,Option.isSome_some];first|refine callK_r (by first|assumption|fail) (by first|exact .inl rfl|exact .inr rfl) ?_|refine callK_i (by assumption) (by repeat(first|exact DLe.refl _|exact DLe.nil _|(refine DLe.tup ?_)|(refine DLe.agg ?_ rfl)|exact trivial|(refine And.intro ?_ ?_))) (by first|exact .inl rfl|exact .inr rfl) ?_)|omega|exact decide_eq_true (by omega)|exact DLe.refl _)
  all_goals first|omega|exact weak_eq rfl rfl
theorem delf_Lease (p:Lse→Bool)(l:List Lse)(k g fn:Nat)(caps:List PV)(h:List Chunk)(hk:hatL h k= .row 68 5 g (dRows (l.map encL)))(hbc:belowL h.length caps=true)(hbh:belowH h.length h=true)(hl:l.length≤1000000000)
 (h5:∃ds,viewL (viewF (hatL h) 5) caps=some ds∧∀x∈l,PSpec Tryz.prog fn (.agg (encL x)::ds) (.v (.bool (p x))))
 (h6:∀(m:List Lse) (b:Chunk),∃ds,viewL (vw (hatL (setC h k (.row 68 5 g (dRows (m.map encL)))++[b]))) caps=some ds∧∀x∈l,PSpec Tryz.prog fn (.agg (encL x)::ds) (.v (.bool (p x)))):
 MSpec Tryz.prog 128 [.own k g,.clo fn caps] h (.own k (g+1)) (setC h k (.row 68 5 (g+1) (dRows ((l.filter fun x=>!p x).map encL)))):=by
 have hlt:k < h.length:=hatL_lt (by rw[hk];simp)
 obtain⟨ds,hd1,hd2⟩:=h5
 have hix:=idxf_Lease encL_len p l fn ds hl hd2
 have hle:h.length≤(setC h k (.row 68 5 (g+1) (dRows ((l.filter fun x=>!p x).map encL)))).length:=by rw[setC_lt hlt];exact Nat.le_refl _
 have hba:belowL h.length [.own k g,.clo fn caps]=true:=by simp only[belowL,belowP,hlt,hbc,decide_true,Bool.and_self]
 unfold idxI at hix
 cases hf:l.findIdx? p with
 |none=>
  rw[hf]at hix
  replace hf:=Lib.hid hf
  refine ms_w tab_ok mixed Tryz.func128 rfl Tryz.ntmps128 Tryz.results128 (by kernel_rfl) hle hba hbh ?_
  repeat' (first|(with_reducible refine And.intro ?_ ?_)|(with_reducible refine gK_i (fun _=>?_) (fun _=>?_))|(with_reducible refine condS_i (fun _=>?_) (fun _=>?_))|(with_reducible refine drw_i (by kernel_rfl))|simp -dsimp only[go_sem,seval, *,hk,hd1]|((with_reducible refine opK_c ?_);simp -dsimp only[go_sem,seval,hk,hd1];first|refine callK_r (by first|assumption|exact hix) (by first|exact .inl rfl|exact .inr rfl) ?_|refine callK_i (by assumption) (by repeat(first|exact DLe.refl _|exact DLe.nil _|(refine DLe.tup ?_)|(refine DLe.agg ?_ rfl)|exact trivial|(refine And.intro ?_ ?_))) (by first|exact .inl rfl|exact .inr rfl) ?_)|omega|exact decide_eq_true (by omega)|exact DLe.refl _)
  have he:(l.filter fun x=>!p x)=l:=List.filter_eq_self.2 fun x hx=>by
   have:=List.findIdx?_eq_none_iff.1 hf.out x hx
   simp[this]
  rw[he]
  exact weak_ret_bump k g _ _ _ hk (weak_eq rfl rfl)
 |some i0=>
  rw[hf]at hix
  have hst:=mix_start hf
  replace hf:=Lib.hid hf
  have hne1:((i0:Int)== -1)=false:=by rw[beq_eq_false_iff_ne];omega
  have hw1:=wi i0 (by omega)
  obtain⟨ga,gb,gc,gd,ge,gf,gg,gi⟩:=hpOK hlt
  refine ms_w tab_ok mixed Tryz.func128 rfl Tryz.ntmps128 Tryz.results128 (by kernel_rfl) hle hba hbh ?_
  have hst:=Lib.hid hst
  repeat' (first|(with_reducible refine And.intro ?_ ?_)|(with_reducible refine gK_i (fun _=>?_) (fun _=>?_))|(with_reducible refine condS_i (fun _=>?_) (fun _=>?_))|(with_reducible refine drw_i (by kernel_rfl))|simp -dsimp only[go_sem,seval, *,hk,hd1,hne1,hw1]|((with_reducible refine opK_c ?_);simp -dsimp only[go_sem,seval,hk,hd1,hne1,hw1];first|refine callK_r (by first|assumption|exact hix) (by first|exact .inl rfl|exact .inr rfl) ?_|refine callK_i (by assumption) (by repeat(first|exact DLe.refl _|exact DLe.nil _|(refine DLe.tup ?_)|(refine DLe.agg ?_ rfl)|exact trivial|(refine And.intro ?_ ?_))) (by first|exact .inl rfl|exact .inr rfl) ?_)|omega|exact decide_eq_true (by omega)|exact DLe.refl _)
  refine loopG tab_ok mixed (fun m e h'=>∃j,j≤l.length∧i0 < j∧m=l.length - j∧e=[(6,.d (.v (.int .i64 j))),(5,.d (.v (.int .i64 (keptL p l j).length))),(4,.d (.v (.slice none 0 0))),(1,.clo fn caps),(0,.own k g)]∧h'=setC h k (.row 68 5 g (dRows ((mixL p l j).map encL)))) (l.length - (i0+1)) _ _ ⟨i0+1,hst.out.1,by omega,rfl,rfl,rfl⟩ ?_ ?_
  ·rw[hst.out.2.1,hst.out.2.2]
   refine weak_forget [] (by rw[gb];exact Nat.le_refl _) (by rw[setC_same h k _ hk hlt,List.append_nil]) ⟨rfl,rfl,rfl,rfl,rfl,trivial⟩ (by rw[gb];simp only[belowE,belowP,hlt,hbc,decide_true,Bool.and_self]) (by rw[gb];exact belowH_setC _ _ _ _ hbh (by simp only[belowC,belowR_d]) hlt)
  ·rintro m e h' ⟨j,hj,hij,rfl,rfl,rfl⟩ C hC
   have hkl:=kept_le p l j
   have hml:=mix_len p l j
   by_cases hjl:j < l.length
   ·obtain⟨x,hx⟩:∃x,l[j]? =some x:=⟨_,List.getElem?_eq_getElem hjl⟩
    have hmx:(mixL p l j)[j]? =some x:=by rw[mix_get p l j j hkl.1];exact hx
    obtain⟨y,hmy⟩:∃y,(mixL p l j)[(keptL p l j).length]? =some y:=⟨_,List.getElem?_eq_getElem (by omega)⟩
    have hjI:(j:Int) < (l.length:Int):=by omega
    have hw2:=wi j (by omega)
    have hw3:IntKind.i64.wrap (((keptL p l j).length:Int)+1)=(((keptL p l j).length+1:Nat):Int):=by rw[IntKind.wrap_i64];omega
    have hk2:(keptL p l j).length < l.length:=by omega
    obtain⟨ds2,hd3,hd4⟩:=h6 (mixL p l j) (.box 68 ((encL x).map .d))
    have hcx:=hd4 x (List.mem_of_getElem? hx)
    have hx:=Lib.hid hx
    have hrow:=dRows_setrow encL (mixL p l j) (keptL p l j).length x
    simp only[encL,List.map_cons,List.map_nil]at hd3 hcx hrow
    repeat' (first|(with_reducible refine And.intro ?_ ?_)|(with_reducible refine gK_i (fun _=>?_) (fun _=>?_))|(with_reducible refine condS_i (fun _=>?_) (fun _=>?_))|(with_reducible refine drw_i (by kernel_rfl))|simp -dsimp only[go_sem,seval, *,encL,hmx,hmy,hjI,hw2,hw3,hd3,hml,gb]|((with_reducible refine opK_c ?_);simp -dsimp only[go_sem,seval,encL,hmx,hmy,hjI,hw2,hw3,hd3,hml,gb];first|refine callK_r (by first|assumption|exact hcx) (by first|exact .inl rfl|exact .inr rfl) ?_|refine callK_i (by assumption) (by repeat(first|exact DLe.refl _|exact DLe.nil _|(refine DLe.tup ?_)|(refine DLe.agg ?_ rfl)|exact trivial|(refine And.intro ?_ ?_))) (by first|exact .inl rfl|exact .inr rfl) ?_)|omega|exact decide_eq_true (by omega)|exact DLe.refl _)
    ·rename_i hp
     obtain⟨q1,q2⟩:=mix_t hx.out hp
     refine hC _ _ _ _ _ (by omega) ⟨j+1,by omega,by omega,rfl,rfl,rfl⟩ ?_
     rw[q1,q2]
     exact weak_forget _ (by rw[gb];exact Nat.le_refl _) rfl ⟨rfl,rfl,rfl,rfl,rfl,trivial⟩ (by rw[gb];simp only[belowE,belowP,hlt,hbc,decide_true,Bool.and_self,Bool.and_true]) (by rw[gb];exact belowH_setC _ _ _ _ hbh (by simp only[belowC,belowR_d]) hlt)
    ·rename_i hp
     obtain⟨q1,q2⟩:=mix_f hx.out hp
     refine hC _ _ _ _ _ (by omega) ⟨j+1,by omega,by omega,rfl,rfl,rfl⟩ ?_
     rw[q1,q2]
     exact weak_forget _ (by rw[gb];exact Nat.le_refl _) rfl ⟨rfl,rfl,rfl,rfl,rfl,trivial⟩ (by rw[gb];simp only[belowE,belowP,hlt,hbc,decide_true,Bool.and_self,Bool.and_true]) (by rw[gb];exact belowH_setC _ _ _ _ hbh (by simp only[belowC,belowR_d]) hlt)
   ·obtain rfl:j=l.length:=by omega
    have hm0:mixL p l l.length≠[]:=fun e=>by rw[e]at hml;simp at hml;omega
    have hn1:¬dRows ((mixL p l l.length).map encL)=[]:=by simpa[dRows]using hm0
    have hl2:∀z:List PV,(setAt (dRows ((mixL p l l.length).map encL)) (keptL p l l.length).length (List.replicate (l.length - (keptL p l l.length).length) z)).length=l.length:=fun z=>by
     rw[setAt_length (by simp[dRows_len,hml];omega)]
     simp[dRows_len,hml]
    have hn2:∀z:List PV,¬setAt (dRows ((mixL p l l.length).map encL)) (keptL p l l.length).length (List.replicate (l.length - (keptL p l l.length).length) z)=[]:=fun z e=>by
     have:=hl2 z
     rw[e]at this;simp at this;omega
    repeat' (first|(with_reducible refine And.intro ?_ ?_)|(with_reducible refine gK_i (fun _=>?_) (fun _=>?_))|(with_reducible refine condS_i (fun _=>?_) (fun _=>?_))|(with_reducible refine drw_i (by kernel_rfl))|simp -dsimp only[go_sem,seval, *,encL,Int.lt_irrefl,hml,gb]|((with_reducible refine opK_c ?_);simp -dsimp only[go_sem,seval,encL,Int.lt_irrefl,hml,gb];first|refine callK_r (by first|assumption|fail) (by first|exact .inl rfl|exact .inr rfl) ?_|refine callK_i (by assumption) (by repeat(first|exact DLe.refl _|exact DLe.nil _|(refine DLe.tup ?_)|(refine DLe.agg ?_ rfl)|exact trivial|(refine And.intro ?_ ?_))) (by first|exact .inl rfl|exact .inr rfl) ?_)|omega|exact decide_eq_true (by omega)|exact DLe.refl _)
    have hfin:=mixL_take p l
    rw[←hfin,List.map_take]
    exact delf_weak hlt (by simp[hml];omega) (by simpa using hm0) (by simp[hml])
theorem delf_Pool (p:Pol→Bool)(l:List Pol)(k g fn:Nat)(caps:List PV)(h:List Chunk)(hk:hatL h k= .row 62 9 g (dRows (l.map encPol)))(hbc:belowL h.length caps=true)(hbh:belowH h.length h=true)(hl:l.length≤1000000000)
 (h5:∃ds,viewL (viewF (hatL h) 5) caps=some ds∧∀x∈l,PSpec Tryz.prog fn (.agg (encPol x)::ds) (.v (.bool (p x))))
 (h6:∀(m:List Pol) (b:Chunk),∃ds,viewL (vw (hatL (setC h k (.row 62 9 g (dRows (m.map encPol)))++[b]))) caps=some ds∧∀x∈l,PSpec Tryz.prog fn (.agg (encPol x)::ds) (.v (.bool (p x)))):
 MSpec Tryz.prog 126 [.own k g,.clo fn caps] h (.own k (g+1)) (setC h k (.row 62 9 (g+1) (dRows ((l.filter fun x=>!p x).map encPol)))):=by
 have hlt:k < h.length:=hatL_lt (by rw[hk];simp)
 obtain⟨ds,hd1,hd2⟩:=h5
 have hix:=idxf_Pool encPol_len p l fn ds hl hd2
 have hle:h.length≤(setC h k (.row 62 9 (g+1) (dRows ((l.filter fun x=>!p x).map encPol)))).length:=by rw[setC_lt hlt];exact Nat.le_refl _
 have hba:belowL h.length [.own k g,.clo fn caps]=true:=by simp only[belowL,belowP,hlt,hbc,decide_true,Bool.and_self]
 unfold idxI at hix
 cases hf:l.findIdx? p with
 |none=>
  rw[hf]at hix
  replace hf:=Lib.hid hf
  refine ms_w tab_ok mixed Tryz.func126 rfl Tryz.ntmps126 Tryz.results126 (by kernel_rfl) hle hba hbh ?_
  repeat' (first|(with_reducible refine And.intro ?_ ?_)|(with_reducible refine gK_i (fun _=>?_) (fun _=>?_))|(with_reducible refine condS_i (fun _=>?_) (fun _=>?_))|(with_reducible refine drw_i (by kernel_rfl))|simp -dsimp only[go_sem,seval, *,hk,hd1]|((with_reducible refine opK_c ?_);simp -dsimp only[go_sem,seval,hk,hd1];first|refine callK_r (by first|assumption|exact hix) (by first|exact .inl rfl|exact .inr rfl) ?_|refine callK_i (by assumption) (by repeat(first|exact DLe.refl _|exact DLe.nil _|(refine DLe.tup ?_)|(refine DLe.agg ?_ rfl)|exact trivial|(refine And.intro ?_ ?_))) (by first|exact .inl rfl|exact .inr rfl) ?_)|omega|exact decide_eq_true (by omega)|exact DLe.refl _)
  have he:(l.filter fun x=>!p x)=l:=List.filter_eq_self.2 fun x hx=>by
   have:=List.findIdx?_eq_none_iff.1 hf.out x hx
   simp[this]
  rw[he]
  exact weak_ret_bump k g _ _ _ hk (weak_eq rfl rfl)
 |some i0=>
  rw[hf]at hix
  have hst:=mix_start hf
  replace hf:=Lib.hid hf
  have hne1:((i0:Int)== -1)=false:=by rw[beq_eq_false_iff_ne];omega
  have hw1:=wi i0 (by omega)
  obtain⟨ga,gb,gc,gd,ge,gf,gg,gi⟩:=hpOK hlt
  refine ms_w tab_ok mixed Tryz.func126 rfl Tryz.ntmps126 Tryz.results126 (by kernel_rfl) hle hba hbh ?_
  have hst:=Lib.hid hst
  repeat' (first|(with_reducible refine And.intro ?_ ?_)|(with_reducible refine gK_i (fun _=>?_) (fun _=>?_))|(with_reducible refine condS_i (fun _=>?_) (fun _=>?_))|(with_reducible refine drw_i (by kernel_rfl))|simp -dsimp only[go_sem,seval, *,hk,hd1,hne1,hw1]|((with_reducible refine opK_c ?_);simp -dsimp only[go_sem,seval,hk,hd1,hne1,hw1];first|refine callK_r (by first|assumption|exact hix) (by first|exact .inl rfl|exact .inr rfl) ?_|refine callK_i (by assumption) (by repeat(first|exact DLe.refl _|exact DLe.nil _|(refine DLe.tup ?_)|(refine DLe.agg ?_ rfl)|exact trivial|(refine And.intro ?_ ?_))) (by first|exact .inl rfl|exact .inr rfl) ?_)|omega|exact decide_eq_true (by omega)|exact DLe.refl _)
  refine loopG tab_ok mixed (fun m e h'=>∃j,j≤l.length∧i0 < j∧m=l.length - j∧e=[(6,.d (.v (.int .i64 j))),(5,.d (.v (.int .i64 (keptL p l j).length))),(4,.d (.v (.slice none 0 0))),(1,.clo fn caps),(0,.own k g)]∧h'=setC h k (.row 62 9 g (dRows ((mixL p l j).map encPol)))) (l.length - (i0+1)) _ _ ⟨i0+1,hst.out.1,by omega,rfl,rfl,rfl⟩ ?_ ?_
  ·rw[hst.out.2.1,hst.out.2.2]
   refine weak_forget [] (by rw[gb];exact Nat.le_refl _) (by rw[setC_same h k _ hk hlt,List.append_nil]) ⟨rfl,rfl,rfl,rfl,rfl,trivial⟩ (by rw[gb];simp only[belowE,belowP,hlt,hbc,decide_true,Bool.and_self]) (by rw[gb];exact belowH_setC _ _ _ _ hbh (by simp only[belowC,belowR_d]) hlt)
  ·rintro m e h' ⟨j,hj,hij,rfl,rfl,rfl⟩ C hC
   have hkl:=kept_le p l j
   have hml:=mix_len p l j
   by_cases hjl:j < l.length
   ·obtain⟨x,hx⟩:∃x,l[j]? =some x:=⟨_,List.getElem?_eq_getElem hjl⟩
    have hmx:(mixL p l j)[j]? =some x:=by rw[mix_get p l j j hkl.1];exact hx
    obtain⟨y,hmy⟩:∃y,(mixL p l j)[(keptL p l j).length]? =some y:=⟨_,List.getElem?_eq_getElem (by omega)⟩
    have hjI:(j:Int) < (l.length:Int):=by omega
    have hw2:=wi j (by omega)
    have hw3:IntKind.i64.wrap (((keptL p l j).length:Int)+1)=(((keptL p l j).length+1:Nat):Int):=by rw[IntKind.wrap_i64];omega
    have hk2:(keptL p l j).length < l.length:=by omega
    obtain⟨ds2,hd3,hd4⟩:=h6 (mixL p l j) (.box 62 ((encPol x).map .d))
    have hcx:=hd4 x (List.mem_of_getElem? hx)
    have hx:=Lib.hid hx
    have hrow:=dRows_setrow encPol (mixL p l j) (keptL p l j).length x
    simp only[encPol,List.map_cons,List.map_nil]at hd3 hcx hrow
    repeat' (first|(with_reducible refine And.intro ?_ ?_)|(with_reducible refine gK_i (fun _=>?_) (fun _=>?_))|(with_reducible refine condS_i (fun _=>?_) (fun _=>?_))|(with_reducible refine drw_i (by kernel_rfl))|simp -dsimp only[go_sem,seval, *,encPol,hmx,hmy,hjI,hw2,hw3,hd3,hml,gb]|((with_reducible refine opK_c ?_);simp -dsimp only[go_sem,seval,encPol,hmx,hmy,hjI,hw2,hw3,hd3,hml,gb];first|refine callK_r (by first|assumption|exact hcx) (by first|exact .inl rfl|exact .inr rfl) ?_|refine callK_i (by assumption) (by repeat(first|exact DLe.refl _|exact DLe.nil _|(refine DLe.tup ?_)|(refine DLe.agg ?_ rfl)|exact trivial|(refine And.intro ?_ ?_))) (by first|exact .inl rfl|exact .inr rfl) ?_)|omega|exact decide_eq_true (by omega)|exact DLe.refl _)
    ·rename_i hp
     obtain⟨q1,q2⟩:=mix_t hx.out hp
     refine hC _ _ _ _ _ (by omega) ⟨j+1,by omega,by omega,rfl,rfl,rfl⟩ ?_
     rw[q1,q2]
     exact weak_forget _ (by rw[gb];exact Nat.le_refl _) rfl ⟨rfl,rfl,rfl,rfl,rfl,trivial⟩ (by rw[gb];simp only[belowE,belowP,hlt,hbc,decide_true,Bool.and_self,Bool.and_true]) (by rw[gb];exact belowH_setC _ _ _ _ hbh (by simp only[belowC,belowR_d]) hlt)
    ·rename_i hp
     obtain⟨q1,q2⟩:=mix_f hx.out hp
     refine hC _ _ _ _ _ (by omega) ⟨j+1,by omega,by omega,rfl,rfl,rfl⟩ ?_
     rw[q1,q2]
     exact weak_forget _ (by rw[gb];exact Nat.le_refl _) rfl ⟨rfl,rfl,rfl,rfl,rfl,trivial⟩ (by rw[gb];simp only[belowE,belowP,hlt,hbc,decide_true,Bool.and_self,Bool.and_true]) (by rw[gb];exact belowH_setC _ _ _ _ hbh (by simp only[belowC,belowR_d]) hlt)
   ·obtain rfl:j=l.length:=by omega
    have hm0:mixL p l l.length≠[]:=fun e=>by rw[e]at hml;simp at hml;omega
    have hn1:¬dRows ((mixL p l l.length).map encPol)=[]:=by simpa[dRows]using hm0
    have hl2:∀z:List PV,(setAt (dRows ((mixL p l l.length).map encPol)) (keptL p l l.length).length (List.replicate (l.length - (keptL p l l.length).length) z)).length=l.length:=fun z=>by
     rw[setAt_length (by simp[dRows_len,hml];omega)]
     simp[dRows_len,hml]
    have hn2:∀z:List PV,¬setAt (dRows ((mixL p l l.length).map encPol)) (keptL p l l.length).length (List.replicate (l.length - (keptL p l l.length).length) z)=[]:=fun z e=>by
     have:=hl2 z
     rw[e]at this;simp at this;omega
    repeat' (first|(with_reducible refine And.intro ?_ ?_)|(with_reducible refine gK_i (fun _=>?_) (fun _=>?_))|(with_reducible refine condS_i (fun _=>?_) (fun _=>?_))|(with_reducible refine drw_i (by kernel_rfl))|simp -dsimp only[go_sem,seval, *,encPol,Int.lt_irrefl,hml,gb]|((with_reducible refine opK_c ?_);simp -dsimp only[go_sem,seval,encPol,Int.lt_irrefl,hml,gb];first|refine callK_r (by first|assumption|fail) (by first|exact .inl rfl|exact .inr rfl) ?_|refine callK_i (by assumption) (by repeat(first|exact DLe.refl _|exact DLe.nil _|(refine DLe.tup ?_)|(refine DLe.agg ?_ rfl)|exact trivial|(refine And.intro ?_ ?_))) (by first|exact .inl rfl|exact .inr rfl) ?_)|omega|exact decide_eq_true (by omega)|exact DLe.refl _)
    have hfin:=mixL_take p l
    rw[←hfin,List.map_take]
    exact delf_weak hlt (by simp[hml];omega) (by simpa using hm0) (by simp[hml])
def poolOf (b:Bok)(id:Int):Option Pol:=b.pools.find? fun p=>p.id==id
def Rise (l:List Pol):Prop:=l.Pairwise fun a b=>a.id < b.id
theorem find_rise {α:Type}{key:α→Int}{t:Int}{l:List α}(hs:l.Pairwise fun a b=>key a < key b):(lbB key t l=true∧∃p,l[lbN key t l]? =some p∧l.find? (fun p=>key p==t)=some p∧key p=t)∨(lbB key t l=false∧l.find? (fun p=>key p==t)=none):=by
 have hlow:∀q (hq:q < l.length),q < lbN key t l→key l[q] < t:=by
  intro q hq hlt
  have:=List.not_of_lt_findIdx hlt
  simp at this;omega
 cases hx:l[lbN key t l]? with
 |none=>
  right
  have hb:lbB key t l=false:=by unfold lbB;rw[hx]
  refine⟨hb,?_⟩
  rw[List.find?_eq_none]
  intro y hy
  obtain⟨q,hq,rfl⟩:=List.mem_iff_getElem.1 hy
  have hlen:l.length≤lbN key t l:=by
   rcases Nat.lt_or_ge (lbN key t l) l.length with h|h
   ·rw[List.getElem?_eq_getElem h]at hx;cases hx
   ·exact h
  have:=hlow q hq (by omega)
  simp;omega
 |some p=>
  obtain⟨hlt,hp⟩:=List.getElem?_eq_some_iff.1 hx
  have hge:t≤key p:=by
   have:=List.findIdx_getElem (xs:=l) (p:=fun x=>decide (t≤key x)) (w:=hlt)
   rw[show l[List.findIdx (fun x=>decide (t≤key x)) l]'hlt=p from hp]at this
   simpa using this
  by_cases he:key p=t
  ·left
   have hb:lbB key t l=true:=by unfold lbB;rw[hx];simpa using he
   refine⟨hb,p,rfl,?_,he⟩
   have hpl:p∈l:=List.mem_of_getElem? hx
   cases hf:l.find? (fun p=>key p==t)with
   |none=>exact absurd he (by simpa using List.find?_eq_none.1 hf p hpl)
   |some q=>
    have hq1:key q=t:=by simpa using List.find?_some hf
    have hq2:=List.mem_of_find?_eq_some hf
    obtain⟨i,hi,rfl⟩:=List.mem_iff_getElem.1 hq2
    rcases Nat.lt_trichotomy i (lbN key t l)with h|h|h
    ·have:=hlow i hi h;omega
    ·subst h;rw[List.getElem?_eq_getElem hlt]at hx;rw[Option.some.inj hx]
    ·have:=List.pairwise_iff_getElem.1 hs _ i hlt hi h
     rw[hp]at this;omega
  ·right
   have hb:lbB key t l=false:=by unfold lbB;rw[hx];simpa using he
   refine⟨hb,?_⟩
   rw[List.find?_eq_none]
   intro y hy
   obtain⟨i,hi,rfl⟩:=List.mem_iff_getElem.1 hy
   rcases Nat.lt_trichotomy i (lbN key t l)with h|h|h
   ·have:=hlow i hi h;simp;omega
   ·subst h;rw[hp];simpa using he
   ·have:=List.pairwise_iff_getElem.1 hs _ i hlt hi h
    rw[hp]at this;simp;omega
theorem byId_p (p:Pol)(t:Int):PSpec Tryz.prog 198 [.agg (encPol p),.v (.int .i64 t)] (.v (.int .i64 (cmpI p.id t))):=by
 refine pj Tryz.func198 Tryz.ntmps198 Tryz.results198 ?_
 have z1z:=compare_p p.id t
 exact wk0
 all_goals exact DLe.refl _
def findR (b:Bok)(id:Int):D:=match poolOf b id with|some p=> .tup [.ept (encPol p),.v (.bool true)]|none=> .tup [.v (.pointer none),.v (.bool false)]
theorem find_p (b:Bok)(id:Int)(hb:b.pools.length≤1000000000)(hs:Rise b.pools):PSpec Tryz.prog 116 [.ept (encB b),.v (.int .i64 id)] (findR b id):=by
 have hbs:=bsrf_Pool encPol_len (fun p=>p.id) b.pools id 198 [] hb hs (fun p _=>byId_p p id)
 unfold findR poolOf
 rcases find_rise (t:=id) hs with⟨h1,p,h2,h3,-⟩|⟨h1,h2⟩
 ·rw[h1]at hbs
  rw[h3]
  refine pj Tryz.func116 Tryz.ntmps116 Tryz.results116 ?_
  exact wk0
  all_goals exact DLe.refl _
 ·rw[h1]at hbs
  rw[h2]
  refine pj Tryz.func116 Tryz.ntmps116 Tryz.results116 ?_
  exact wk0
  all_goals exact DLe.refl _
theorem eqP_listB (p q:Pfx):([p.at_,p.len]==[q.at_,q.len])=decide (p=q):=by
 rw[Bool.eq_iff_iff]
 cases p;cases q
 simp
def leaseOK (b:Bok)(p:Pol)(l:Lse):Bool:=
 if l.kind==1 then idOKB l.owner&&(l.till==0)
 else if l.kind==2 then (match poolOf b l.owner with|some q=>(q.up==p.id)&&(decide (q.root=l.at_)&&(l.till==0))|none=>false)
 else if l.kind==3 then (l.owner==0)&&(decide (l.till>b.tick)&&decide (l.till≤b.tick+1024))else false
theorem lease_p (b:Bok)(p:Pol)(l:Lse)(hb:b.pools.length≤1000000000)(hs:Rise b.pools)(ht:0≤b.tick∧b.tick≤1073741824):PSpec Tryz.prog 94 [.ept (encB b),.ept (encPol p),.agg (encL l)] (.v (.bool (leaseOK b p l))):=by
 unfold leaseOK
 cases h1:l.kind==1 with
 |true=>
  rw[if_pos rfl]
  cases h2:idOKB l.owner with
  |true=>
   have hi:=ids_p l.owner
   rw[h2]at hi
   refine pj Tryz.func94 Tryz.ntmps94 Tryz.results94 ?_
   exact wk0
   all_goals exact DLe.refl _
  |false=>
   have hi:=ids_p l.owner
   rw[h2]at hi
   refine pj Tryz.func94 Tryz.ntmps94 Tryz.results94 ?_
   exact wk0
   all_goals exact DLe.refl _
 |false=>
  rw[if_neg (by simp)]
  cases h2:l.kind==2 with
  |true=>
   rw[if_pos rfl]
   have hf:=find_p b l.owner hb hs
   unfold findR at hf
   cases hq:poolOf b l.owner with
   |none=>
    rw[hq]at hf
    refine pj Tryz.func94 Tryz.ntmps94 Tryz.results94 ?_
    exact wk0
    all_goals exact DLe.refl _
   |some q=>
    rw[hq]at hf
    have he:=eqP_listB q.root l.at_
    cases h3:q.up==p.id<;>cases h4:decide (q.root=l.at_)<;>rw[h4]at he
    all_goals
     refine pj Tryz.func94 Tryz.ntmps94 Tryz.results94 ?_
     exact wk0
     all_goals simp only[h3,h4,Bool.true_and,Bool.false_and,Bool.and_false]
     all_goals exact DLe.refl _
  |false=>
   rw[if_neg (by simp)]
   have hw:IntKind.i64.wrap (b.tick+1024)=b.tick+1024:=by rw[IntKind.wrap_i64];omega
   cases h3:l.kind==3 with
   |false=>
    rw[if_neg (by simp)]
    refine pj Tryz.func94 Tryz.ntmps94 Tryz.results94 ?_
    exact wk0
    all_goals exact DLe.refl _
   |true=>
    rw[if_pos rfl]
    cases h4:l.owner==0<;>cases h5:decide (l.till>b.tick)
    all_goals
     refine pj Tryz.func94 Tryz.ntmps94 Tryz.results94 ?_
     exact wk0
     all_goals exact DLe.refl _
def forB (id:Int)(l:Lse):Bool:=(l.kind==2)&&(l.owner==id)
theorem above1_p (l:Lse)(p:Pol):PSpec Tryz.prog 178 [.agg (encL l),.ept [.ept (encPol p)]] (.v (.bool (forB p.id l))):=by
 unfold forB
 cases h1:l.kind==2
 all_goals
  refine pj Tryz.func178 Tryz.ntmps178 Tryz.results178 ?_
  exact wk0
  all_goals exact DLe.refl _
def upOK (b:Bok):Nat→Pol→Bool
 |0,p=>p.up==0
 |n+1,p=>(p.up==0)||(match poolOf b p.up with|some q=>q.leases.any (forB p.id)&&upOK b n q|none=>false)
theorem upOK_zero {b:Bok}{p:Pol}(n:Nat)(h:(p.up==0)=true):upOK b n p=true:=by cases n<;>simp[upOK,h]
theorem above_p (b:Bok)(p:Pol)(hb:b.pools.length≤8)(hs:Rise b.pools)(hl:∀q∈b.pools,q.leases.length≤1000000000):PSpec Tryz.prog 91 [.ept (encB b),.ept (encPol p)] (.v (.bool (upOK b b.pools.length p))):=by
 refine pj Tryz.func91 Tryz.ntmps91 Tryz.results91 ?_
 repeat' (first|(with_reducible refine And.intro ?_ ?_)|(with_reducible refine gK_i (fun _=>?_) (fun _=>?_))|(with_reducible refine condS_i (fun _=>?_) (fun _=>?_))|(with_reducible refine drw_i (by kernel_rfl))|simp -dsimp only[go_sem,seval, *,encB]|((with_reducible refine opK_c ?_);simp -dsimp only[go_sem,seval,encB];first|refine callK_r (by first|assumption|fail) (by first|exact .inl rfl|exact .inr rfl) ?_|refine callK_i (by assumption) (by repeat(first|exact DLe.refl _|exact DLe.nil _|(refine DLe.tup ?_)|(refine DLe.agg ?_ rfl)|exact trivial|(refine And.intro ?_ ?_))) (by first|exact .inl rfl|exact .inr rfl) ?_)|omega|exact decide_eq_true (by omega)|exact DLe.refl _)
 refine loopG tab_ok mixed (fun m e h=>∃(k:Nat) (q:Pol),k≤b.pools.length∧upOK b b.pools.length p=upOK b (b.pools.length - k) q∧m=b.pools.length - k∧e=[(12,.d (.v (.int .i64 k))),(11,.d (.v (.int .i64 b.pools.length))),(4,.d (.v (.bool false))),(3,.ptr 0 0),(0,.d (.ept (encB b)))]∧
  h=[.box 147 [.d (.ept (encPol q))]]) _ _ _ ⟨0,p,Nat.zero_le _,rfl,rfl,rfl,rfl⟩ (weak_forget _ (by simp) (by(try simp only[encB]);rfl) se bl bl) ?_
 rintro m e h ⟨k,q,hk,hup,hm,rfl,rfl⟩ CL hCL
 by_cases hlt:k < b.pools.length
 ·have hltI:(k:Int) < (b.pools.length:Int):=by omega
  have hwr:=wi k (by omega)
  obtain⟨j,hj⟩:∃j,b.pools.length - k=j+1:=⟨b.pools.length - k - 1,by omega⟩
  rw[hj]at hup
  replace hup:=Lib.hid hup
  replace hj:=Lib.hid hj
  replace hm:=Lib.hid hm
  cases h0:q.up==0 with
  |true=>
   repeat' (first|(with_reducible refine And.intro ?_ ?_)|(with_reducible refine gK_i (fun _=>?_) (fun _=>?_))|(with_reducible refine condS_i (fun _=>?_) (fun _=>?_))|(with_reducible refine drw_i (by kernel_rfl))|simp -dsimp only[go_sem,seval, *,encB,encPol,hltI,h0]|((with_reducible refine opK_c ?_);simp -dsimp only[go_sem,seval,encB,encPol,hltI,h0];first|refine callK_r (by first|assumption|fail) (by first|exact .inl rfl|exact .inr rfl) ?_|refine callK_i (by assumption) (by repeat(first|exact DLe.refl _|exact DLe.nil _|(refine DLe.tup ?_)|(refine DLe.agg ?_ rfl)|exact trivial|(refine And.intro ?_ ?_))) (by first|exact .inl rfl|exact .inr rfl) ?_)|omega|exact decide_eq_true (by omega)|exact DLe.refl _)
   rw[hup.out,upOK_zero _ h0];exact DLe.refl _
  |false=>
   have hf:=find_p b q.up (by omega) hs
   unfold findR at hf
   cases hq:poolOf b q.up with
   |none=>
    rw[hq]at hf
    repeat' (first|(with_reducible refine And.intro ?_ ?_)|(with_reducible refine gK_i (fun _=>?_) (fun _=>?_))|(with_reducible refine condS_i (fun _=>?_) (fun _=>?_))|(with_reducible refine drw_i (by kernel_rfl))|simp -dsimp only[go_sem,seval, *,encB,encPol,hltI,h0]|((with_reducible refine opK_c ?_);simp -dsimp only[go_sem,seval,encB,encPol,hltI,h0];first|refine callK_r (by first|assumption|exact hf) (by first|exact .inl rfl|exact .inr rfl) ?_|refine callK_i (by assumption) (by repeat(first|exact DLe.refl _|exact DLe.nil _|(refine DLe.tup ?_)|(refine DLe.agg ?_ rfl)|exact trivial|(refine And.intro ?_ ?_))) (by first|exact .inl rfl|exact .inr rfl) ?_)|omega|exact decide_eq_true (by omega)|exact DLe.refl _)
    rw[hup.out];simp only[upOK,h0,hq,Bool.false_or];exact DLe.refl _
   |some r=>
    rw[hq]at hf
    have hr:r∈b.pools:=List.mem_of_find?_eq_some hq
    have hcn:=cntf_Lease encL_len (forB q.id) r.leases 178 [.ept [.ept (encPol q)]] (hl r hr) (fun x _=>above1_p x q)
    cases ha:r.leases.any (forB q.id)with
    |false=>
     rw[ha]at hcn
     repeat' (first|(with_reducible refine And.intro ?_ ?_)|(with_reducible refine gK_i (fun _=>?_) (fun _=>?_))|(with_reducible refine condS_i (fun _=>?_) (fun _=>?_))|(with_reducible refine drw_i (by kernel_rfl))|simp -dsimp only[go_sem,seval, *,encB,encPol,hltI,h0]|((with_reducible refine opK_c ?_);simp -dsimp only[go_sem,seval,encB,encPol,hltI,h0];first|refine callK_r (by first|assumption|exact hf|exact hcn) (by first|exact .inl rfl|exact .inr rfl) ?_|refine callK_i (by assumption) (by repeat(first|exact DLe.refl _|exact DLe.nil _|(refine DLe.tup ?_)|(refine DLe.agg ?_ rfl)|exact trivial|(refine And.intro ?_ ?_))) (by first|exact .inl rfl|exact .inr rfl) ?_)|omega|exact decide_eq_true (by omega)|exact DLe.refl _)
     rw[hup.out];simp only[upOK,h0,hq,ha,Bool.false_or,Bool.false_and];exact DLe.refl _
    |true=>
     rw[ha]at hcn
     repeat' (first|(with_reducible refine And.intro ?_ ?_)|(with_reducible refine gK_i (fun _=>?_) (fun _=>?_))|(with_reducible refine condS_i (fun _=>?_) (fun _=>?_))|(with_reducible refine drw_i (by kernel_rfl))|simp -dsimp only[go_sem,seval, *,encB,encPol,hltI,hwr,h0]|((with_reducible refine opK_c ?_);simp -dsimp only[go_sem,seval,encB,encPol,hltI,hwr,h0];first|refine callK_r (by first|assumption|exact hf|exact hcn) (by first|exact .inl rfl|exact .inr rfl) ?_|refine callK_i (by assumption) (by repeat(first|exact DLe.refl _|exact DLe.nil _|(refine DLe.tup ?_)|(refine DLe.agg ?_ rfl)|exact trivial|(refine And.intro ?_ ?_))) (by first|exact .inl rfl|exact .inr rfl) ?_)|omega|exact decide_eq_true (by omega)|exact DLe.refl _)
     refine hCL _ _ _ _ _ ?_ ⟨k+1,r,hlt,?_,rfl,rfl,rfl⟩ (weak_forget _ (by simp) (by(try simp only[encB]);rfl) se bl bl)
     ·have:=hm.out;omega
     ·rw[hup.out];simp only[upOK,h0,hq,ha,Bool.false_or,Bool.true_and]
      congr 1;have:=hj.out;omega
 ·obtain rfl:k=b.pools.length:=by omega
  rw[Nat.sub_self]at hup
  replace hup:=Lib.hid hup
  repeat' (first|(with_reducible refine And.intro ?_ ?_)|(with_reducible refine gK_i (fun _=>?_) (fun _=>?_))|(with_reducible refine condS_i (fun _=>?_) (fun _=>?_))|(with_reducible refine drw_i (by kernel_rfl))|simp -dsimp only[go_sem,seval, *,encB,encPol,Int.lt_irrefl]|((with_reducible refine opK_c ?_);simp -dsimp only[go_sem,seval,encB,encPol,Int.lt_irrefl];first|refine callK_r (by first|assumption|fail) (by first|exact .inl rfl|exact .inr rfl) ?_|refine callK_i (by assumption) (by repeat(first|exact DLe.refl _|exact DLe.nil _|(refine DLe.tup ?_)|(refine DLe.agg ?_ rfl)|exact trivial|(refine And.intro ?_ ?_))) (by first|exact .inl rfl|exact .inr rfl) ?_)|omega|exact decide_eq_true (by omega)|exact DLe.refl _)
  rw[hup.out];exact DLe.refl _
theorem check1_p (b:Bok)(p:Pol)(l:Lse)(hb:b.pools.length≤1000000000)(hs:Rise b.pools)(ht:0≤b.tick∧b.tick≤1073741824):PSpec Tryz.prog 93 [.agg (encL l),.ept (encB b),.ept [.ept (encPol p)]] (.v (.bool (!leaseOK b p l))):=by
 have hl:=lease_p b p l hb hs ht
 refine pj Tryz.func93 Tryz.ntmps93 Tryz.results93 ?_
 repeat' (first|(with_reducible refine And.intro ?_ ?_)|(with_reducible refine gK_i (fun _=>?_) (fun _=>?_))|(with_reducible refine condS_i (fun _=>?_) (fun _=>?_))|(with_reducible refine drw_i (by kernel_rfl))|simp -dsimp only[go_sem,seval, *,encL]|((with_reducible refine opK_c ?_);simp -dsimp only[go_sem,seval,encL];first|refine callK_r (by first|assumption|exact hl) (by first|exact .inl rfl|exact .inr rfl) ?_|refine callK_i (by assumption) (by repeat(first|exact DLe.refl _|exact DLe.nil _|(refine DLe.tup ?_)|(refine DLe.agg ?_ rfl)|exact trivial|(refine And.intro ?_ ?_))) (by first|exact .inl rfl|exact .inr rfl) ?_)|omega|exact decide_eq_true (by omega)|exact DLe.refl _)
theorem check2_p (p:Pol)(q:Pfx):PSpec Tryz.prog 96 [.agg (encP q),.ept [.ept (encPol p)]] (.v (.bool (p.root.meets q))):=by
 have hm:=meets_p p.root q
 refine pj Tryz.func96 Tryz.ntmps96 Tryz.results96 ?_
 repeat' (first|(with_reducible refine And.intro ?_ ?_)|(with_reducible refine gK_i (fun _=>?_) (fun _=>?_))|(with_reducible refine condS_i (fun _=>?_) (fun _=>?_))|(with_reducible refine drw_i (by kernel_rfl))|simp -dsimp only[go_sem,seval, *,encP,encPol]|((with_reducible refine opK_c ?_);simp -dsimp only[go_sem,seval,encP,encPol];first|refine callK_r (by first|assumption|exact hm) (by first|exact .inl rfl|exact .inr rfl) ?_|refine callK_i (by assumption) (by repeat(first|exact DLe.refl _|exact DLe.nil _|(refine DLe.tup ?_)|(refine DLe.agg ?_ rfl)|exact trivial|(refine And.intro ?_ ?_))) (by first|exact .inl rfl|exact .inr rfl) ?_)|omega|exact decide_eq_true (by omega)|exact DLe.refl _)
def firstOK:Int→List Pol→Bool
 |_,[]=>true
 |last,p::l=>(idOKB p.id&&(decide (last < p.id)&&((chkS p.root (usedP p)==0)&&ruleOK p.rule p.root.len)))&&firstOK p.id l
def secondOK (b:Bok):List Pol→List Pfx→Bool
 |[],_=>true
 |p::l,roots=>(upOK b b.pools.length p&&p.leases.all (leaseOK b p))&&(if p.up==0 then !(roots.any p.root.meets)&&secondOK b l (roots++[p.root])else secondOK b l roots)
def chkBk (b:Bok):Int:=if b.pools.length>8 then 2 else if b.tick < 0∨b.tick>1073741824 then 1 else if firstOK 0 b.pools&&secondOK b b.pools []then 0 else 1
theorem firstOK_rise:∀(l:List Pol) (last:Int),firstOK last l=true→Rise l∧∀p∈l,last < p.id
 |[],_,_=>⟨List.Pairwise.nil,fun p h=>by simp at h⟩
 |p::l,last,h=>by
  simp only[firstOK,Bool.and_eq_true,decide_eq_true_eq]at h
  obtain⟨h1,h2⟩:=firstOK_rise l p.id h.2
  refine⟨List.pairwise_cons.2 ⟨fun q hq=>h2 q hq,h1⟩,fun q hq=>?_⟩
  rcases List.mem_cons.1 hq with rfl|hq
  ·exact h.1.2.1
  ·have:=h2 q hq;have:=h.1.2.1;omega
theorem firstOK_mem:∀(l:List Pol) (last:Int),firstOK last l=true→∀p∈l,idOKB p.id=true∧chkS p.root (usedP p)=0∧ruleOK p.rule p.root.len=true
 |p::l,last,h,q,hq=>by
  simp only[firstOK,Bool.and_eq_true,decide_eq_true_eq,beq_iff_eq]at h
  rcases List.mem_cons.1 hq with rfl|hq
  ·exact⟨h.1.1,h.1.2.2.1,h.1.2.2.2⟩
  ·exact firstOK_mem l p.id h.2 q hq
theorem drop_getB {α:Type}{l:List α}{k:Nat}{x:α}(h:l[k]? =some x):l.drop k=x::l.drop (k+1):=by
 obtain⟨hk,rfl⟩:=List.getElem?_eq_some_iff.1 h
 exact List.drop_eq_getElem_cons hk
theorem bkCheck_p (b:Bok)(hz:∀p∈b.pools,p.leases.length≤3518437208882):PSpec Tryz.prog 32 [.agg (encB b)] (.v (.int .i64 (chkBk b))):=by
 by_cases h8:b.pools.length>8
 ·have h8I:decide ((b.pools.length:Int)>8)=true:=by simp;omega
  have hr:chkBk b=2:=by simp[chkBk,h8]
  rw[hr]
  refine pj Tryz.func32 Tryz.ntmps32 Tryz.results32 ?_
  repeat' (first|(with_reducible refine And.intro ?_ ?_)|(with_reducible refine gK_i (fun _=>?_) (fun _=>?_))|(with_reducible refine condS_i (fun _=>?_) (fun _=>?_))|(with_reducible refine drw_i (by kernel_rfl))|simp -dsimp only[go_sem,seval, *,encB,h8I]|((with_reducible refine opK_c ?_);simp -dsimp only[go_sem,seval,encB,h8I];first|refine callK_r (by first|assumption|fail) (by first|exact .inl rfl|exact .inr rfl) ?_|refine callK_i (by assumption) (by repeat(first|exact DLe.refl _|exact DLe.nil _|(refine DLe.tup ?_)|(refine DLe.agg ?_ rfl)|exact trivial|(refine And.intro ?_ ?_))) (by first|exact .inl rfl|exact .inr rfl) ?_)|omega|exact decide_eq_true (by omega)|exact DLe.refl _)
 ·have h8I:decide ((b.pools.length:Int)>8)=false:=by simp;omega
  by_cases htk:b.tick < 0∨b.tick>1073741824
  ·have hr:chkBk b=1:=by simp[chkBk,h8,htk]
   rw[hr]
   rcases htk with h|h
   ·have h1:decide (b.tick < 0)=true:=by simpa using h
    refine pj Tryz.func32 Tryz.ntmps32 Tryz.results32 ?_
    repeat' (first|(with_reducible refine And.intro ?_ ?_)|(with_reducible refine gK_i (fun _=>?_) (fun _=>?_))|(with_reducible refine condS_i (fun _=>?_) (fun _=>?_))|(with_reducible refine drw_i (by kernel_rfl))|simp -dsimp only[go_sem,seval, *,encB,h8I,h1]|((with_reducible refine opK_c ?_);simp -dsimp only[go_sem,seval,encB,h8I,h1];first|refine callK_r (by first|assumption|fail) (by first|exact .inl rfl|exact .inr rfl) ?_|refine callK_i (by assumption) (by repeat(first|exact DLe.refl _|exact DLe.nil _|(refine DLe.tup ?_)|(refine DLe.agg ?_ rfl)|exact trivial|(refine And.intro ?_ ?_))) (by first|exact .inl rfl|exact .inr rfl) ?_)|omega|exact decide_eq_true (by omega)|exact DLe.refl _)
   ·have h1:decide (b.tick < 0)=false:=by simp;omega
    have h2:decide (b.tick>1073741824)=true:=by simpa using h
    refine pj Tryz.func32 Tryz.ntmps32 Tryz.results32 ?_
    repeat' (first|(with_reducible refine And.intro ?_ ?_)|(with_reducible refine gK_i (fun _=>?_) (fun _=>?_))|(with_reducible refine condS_i (fun _=>?_) (fun _=>?_))|(with_reducible refine drw_i (by kernel_rfl))|simp -dsimp only[go_sem,seval, *,encB,h8I,h1,h2]|((with_reducible refine opK_c ?_);simp -dsimp only[go_sem,seval,encB,h8I,h1,h2];first|refine callK_r (by first|assumption|fail) (by first|exact .inl rfl|exact .inr rfl) ?_|refine callK_i (by assumption) (by repeat(first|exact DLe.refl _|exact DLe.nil _|(refine DLe.tup ?_)|(refine DLe.agg ?_ rfl)|exact trivial|(refine And.intro ?_ ?_))) (by first|exact .inl rfl|exact .inr rfl) ?_)|omega|exact decide_eq_true (by omega)|exact DLe.refl _)
  ·have h1:decide (b.tick < 0)=false:=by simp;omega
   have h2:decide (b.tick>1073741824)=false:=by simp;omega
   have ht:0≤b.tick∧b.tick≤1073741824:=by omega
   have hr:chkBk b=if firstOK 0 b.pools&&secondOK b b.pools []then 0 else 1:=by simp only[chkBk,h8,htk,if_false]
   rw[hr]
   replace hr:=Lib.hid hr
   replace ht:=Lib.hid ht
   refine pj Tryz.func32 Tryz.ntmps32 Tryz.results32 ?_
   repeat' (first|(with_reducible refine And.intro ?_ ?_)|(with_reducible refine gK_i (fun _=>?_) (fun _=>?_))|(with_reducible refine condS_i (fun _=>?_) (fun _=>?_))|(with_reducible refine drw_i (by kernel_rfl))|simp -dsimp only[go_sem,seval, *,encB,h8I,h1,h2]|((with_reducible refine opK_c ?_);simp -dsimp only[go_sem,seval,encB,h8I,h1,h2];first|refine callK_r (by first|assumption|fail) (by first|exact .inl rfl|exact .inr rfl) ?_|refine callK_i (by assumption) (by repeat(first|exact DLe.refl _|exact DLe.nil _|(refine DLe.tup ?_)|(refine DLe.agg ?_ rfl)|exact trivial|(refine And.intro ?_ ?_))) (by first|exact .inl rfl|exact .inr rfl) ?_)|omega|exact decide_eq_true (by omega)|exact DLe.refl _)
   refine loopG tab_ok mixed (fun m e h=>∃(k:Nat) (last:Int),k≤b.pools.length∧firstOK 0 b.pools=firstOK last (b.pools.drop k)∧m=b.pools.length - k∧e=[(24,.d (.v (.int .i64 k))),(23,.d (.v (.int .i64 b.pools.length))),(3,.d (.v (.int .i64 last))),(2,.d (.v (.int .i64 0))),(1,.ptr 0 0)]∧
    h=[.box 24 ((encB b).map .d)]) _ _ _ ⟨0,0,Nat.zero_le _,rfl,rfl,rfl,rfl⟩ (weak_forget _ (by simp) (by(try simp only[encB]);rfl) se bl bl) ?_
   rintro m e h ⟨k,last,hk,hup,hm,rfl,rfl⟩ C hC
   by_cases hlt:k < b.pools.length
   ·have hltI:(k:Int) < (b.pools.length:Int):=by omega
    have hwr:=wi k (by omega)
    obtain⟨p,hp⟩:∃p,b.pools[k]? =some p:=⟨_,List.getElem?_eq_getElem hlt⟩
    have hpm:p∈b.pools:=List.mem_of_getElem? hp
    rw[drop_getB hp]at hup
    simp only[firstOK]at hup
    have hi:=ids_p p.id
    have htk:=taken_p p (hz p hpm)
    have hsc:=spCheck_p p.root (usedP p)
    have hru:=rule_p p.rule p.root
    replace hup:=Lib.hid hup
    replace hm:=Lib.hid hm
    repeat' (first|(with_reducible refine And.intro ?_ ?_)|(with_reducible refine gK_i (fun _=>?_) (fun _=>?_))|(with_reducible refine condS_i (fun _=>?_) (fun _=>?_))|(with_reducible refine drw_i (by kernel_rfl))|simp -dsimp only[go_sem,seval, *,encB,encPol,hltI,hwr,hp]|((with_reducible refine opK_c ?_);simp -dsimp only[go_sem,seval,encB,encPol,hltI,hwr,hp];first|refine callK_r (by first|assumption|exact hi|exact htk|exact hsc|exact hru) (by first|exact .inl rfl|exact .inr rfl) ?_|refine callK_i (by assumption) (by repeat(first|exact DLe.refl _|exact DLe.nil _|(refine DLe.tup ?_)|(refine DLe.agg ?_ rfl)|exact trivial|(refine And.intro ?_ ?_))) (by first|exact .inl rfl|exact .inr rfl) ?_)|omega|exact decide_eq_true (by omega)|exact DLe.refl _)
    case' pos.refine_1.refine_2.refine_2.refine_2.refine_1=>
     rename_i q1 q2 q3 q4
     refine hC _ _ _ _ _ ?_ ⟨k+1,p.id,hlt,?_,rfl,rfl,rfl⟩ (weak_forget _ (by simp) (by(try simp only[encB]);rfl) se bl bl)
     ·have:=hm.out;omega
     ·rw[hup.out]
      have e1:decide (last < p.id)=true:=by simpa using q2
      have e2:(chkS p.root (usedP p)==0)=true:=by simpa using q3
      rw[q1,e1,e2,q4];rfl
    all_goals
     have hf:firstOK 0 b.pools=false:=by
      rw[hup.out]
      clear hC hi htk hsc hru hz hup hm hr ht
      grind
     rw[hf];exact DLe.refl _
   ·obtain rfl:k=b.pools.length:=by omega
    rw[List.drop_length]at hup
    have hf:firstOK 0 b.pools=true:=by rw[hup];rfl
    obtain⟨hrise,-⟩:=firstOK_rise _ _ hf
    have hmem:=firstOK_mem _ _ hf
    have hl32:∀p∈b.pools,p.leases.length≤32:=fun p hp=>by
     have:=(hmem p hp).2.1
     unfold chkS at this
     split at this
     ·cases this
     ·rename_i h;simpa[usedP]using h
    rw[hf]
    replace hf:=Lib.hid hf
    replace hup:=Lib.hid hup
    replace hm:=Lib.hid hm
    replace hmem:=Lib.hid hmem
    repeat' (first|(with_reducible refine And.intro ?_ ?_)|(with_reducible refine gK_i (fun _=>?_) (fun _=>?_))|(with_reducible refine condS_i (fun _=>?_) (fun _=>?_))|(with_reducible refine drw_i (by kernel_rfl))|simp -dsimp only[go_sem,seval, *,encB,Int.lt_irrefl]|((with_reducible refine opK_c ?_);simp -dsimp only[go_sem,seval,encB,Int.lt_irrefl];first|refine callK_r (by first|assumption|fail) (by first|exact .inl rfl|exact .inr rfl) ?_|refine callK_i (by assumption) (by repeat(first|exact DLe.refl _|exact DLe.nil _|(refine DLe.tup ?_)|(refine DLe.agg ?_ rfl)|exact trivial|(refine And.intro ?_ ?_))) (by first|exact .inl rfl|exact .inr rfl) ?_)|omega|exact decide_eq_true (by omega)|exact DLe.refl _)
    refine loopG tab_ok mixed (fun m e h=>∃(k g:Nat) (roots:List Pfx),k≤b.pools.length∧secondOK b b.pools []=secondOK b (b.pools.drop k) roots∧roots.length≤k∧m=b.pools.length - k∧e=[(71,.d (.v (.int .i64 k))),(70,.d (.v (.int .i64 b.pools.length))),(6,.own 1 g),(2,.d (.v (.int .i64 0))),(1,.ptr 0 0)]∧
     h=[.box 24 ((encB b).map .d),.row 32 2 g (dRows (roots.map encP))]) _ _ _ ⟨0,0,[],Nat.zero_le _,rfl,Nat.zero_le _,rfl,rfl,rfl⟩ ((weak_adopt (Nat.zero_le _) 6 32 2 rfl).trans (weak_forget _ (by simp) (by(try simp only[encB]);rfl) se bl bl)) ?_
    rintro m e h ⟨k,g,roots,hk,hup2,hrl,hm,rfl,rfl⟩ C hC
    by_cases hlt:k < b.pools.length
    ·have hltI:(k:Int) < (b.pools.length:Int):=by omega
     have hwr:=wi k (by omega)
     obtain⟨p,hp⟩:∃p,b.pools[k]? =some p:=⟨_,List.getElem?_eq_getElem hlt⟩
     have hpm:p∈b.pools:=List.mem_of_getElem? hp
     rw[drop_getB hp]at hup2
     simp only[secondOK]at hup2
     have hab:=above_p b p (by omega) hrise (fun q hq=>by have:=hl32 q hq;omega)
     have hcl:=cntf_Lease encL_len (fun l=>!leaseOK b p l) p.leases 93 [.ept (encB b),.ept [.ept (encPol p)]] (by have:=hl32 p hpm;omega) (fun l _=>check1_p b p l (by omega) hrise ht.out)
     have hcp:=cntf_Prefix encP_len p.root.meets roots 96 [.ept [.ept (encPol p)]] (by omega) (fun q _=>check2_p p q)
     have hbnd:(roots.length+1)*16≤140737488355328:=by omega
     replace hup2:=Lib.hid hup2
     replace hm:=Lib.hid hm
     have hall:p.leases.all (leaseOK b p)=!(p.leases.any fun l=>!leaseOK b p l):=by simp[List.all_eq_not_any_not]
     replace hall:=Lib.hid hall
     repeat' (first|(with_reducible refine And.intro ?_ ?_)|(with_reducible refine gK_i (fun _=>?_) (fun _=>?_))|(with_reducible refine condS_i (fun _=>?_) (fun _=>?_))|(with_reducible refine drw_i (by kernel_rfl))|simp -dsimp only[go_sem,seval, *,encB,encPol,hltI,hwr,hp]|((with_reducible refine opK_c ?_);simp -dsimp only[go_sem,seval,encB,encPol,hltI,hwr,hp];first|refine callK_r (by first|assumption|exact hab|exact hcl|exact hcp) (by first|exact .inl rfl|exact .inr rfl) ?_|refine callK_i (by assumption) (by repeat(first|exact DLe.refl _|exact DLe.nil _|(refine DLe.tup ?_)|(refine DLe.agg ?_ rfl)|exact trivial|(refine And.intro ?_ ?_))) (by first|exact .inl rfl|exact .inr rfl) ?_)|omega|exact decide_eq_true (by omega)|exact DLe.refl _)
     case' pos.refine_1.refine_2.refine_1.refine_2=>
      rename_i q1 q2 q3 q4
      refine hC _ _ _ _ _ ?_ ⟨k+1,g+1,roots++[p.root],hlt,?_,by simp;omega,rfl,rfl,rfl⟩ (weak_forget _ (by simp) (by simp only[encB,List.map_append,List.map_cons,List.map_nil,encP];rfl) se bl bl)
      ·have:=hm.out;omega
      ·rw[hup2.out,q1,hall.out,q2,if_pos q3,q4];rfl
     case' pos.refine_1.refine_2.refine_2=>
      rename_i q1 q2 q3
      refine hC _ _ _ _ _ ?_ ⟨k+1,g,roots,hlt,?_,by omega,rfl,rfl,rfl⟩ (weak_forget _ (by simp) (by(try simp only[encB]);rfl) se bl bl)
      ·have:=hm.out;omega
      ·rw[hup2.out,q1,hall.out,q2,if_neg (by rw[q3];simp)];rfl
     all_goals
      have hf2:secondOK b b.pools []=false:=by
       rw[hup2.out,hall.out]
       clear hC hab hcl hcp hz hup2 hm hr ht hall
       grind
      rw[hf2];exact DLe.refl _
    ·obtain rfl:k=b.pools.length:=by omega
     rw[List.drop_length]at hup2
     replace hup2:=Lib.hid hup2
     repeat' (first|(with_reducible refine And.intro ?_ ?_)|(with_reducible refine gK_i (fun _=>?_) (fun _=>?_))|(with_reducible refine condS_i (fun _=>?_) (fun _=>?_))|(with_reducible refine drw_i (by kernel_rfl))|simp -dsimp only[go_sem,seval, *,encB,Int.lt_irrefl]|((with_reducible refine opK_c ?_);simp -dsimp only[go_sem,seval,encB,Int.lt_irrefl];first|refine callK_r (by first|assumption|fail) (by first|exact .inl rfl|exact .inr rfl) ?_|refine callK_i (by assumption) (by repeat(first|exact DLe.refl _|exact DLe.nil _|(refine DLe.tup ?_)|(refine DLe.agg ?_ rfl)|exact trivial|(refine And.intro ?_ ?_))) (by first|exact .inl rfl|exact .inr rfl) ?_)|omega|exact decide_eq_true (by omega)|exact DLe.refl _)
     rw[hup2.out];exact DLe.refl _
end Go.Proofs.YtmicljipaiohkaaGreat
