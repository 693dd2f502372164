/- Texts of this work, joined. -/
import Derived.Test.YtojojebildofnaaGreatDoorZHDeskStores0
import Derived.WalkKit
import Derived.WalkSmall
import Derived.Tactics2
import Derived.WalkLawsBesides
import Derived.WalkSpells
import Derived.KernelRfl
import Derived.Deep.QuietTactic
import Derived.BigQuiet
import Derived.Outline
import Derived.Lib.Hide
import Derived.Deep.LoopGhost
import Derived.Deep.DeepFit
import Derived.Test.YtojojebildofnaaGreatDoorProg
import Derived.Laws.BitsAllLaws
import Derived.Laws.BitsLemmas
import Derived.RegionTactic
import Derived.Laws.BytesArg
import Derived.Laws.OwnMore
import Derived.Laws.ResultCell
import Derived.Laws.Strings
import Derived.Lib.AppendStr
import Derived.Deep.RegionHeld3
import Derived.Laws.IdiomStrings
import Derived.Laws.AppendOwn
import Derived.WalkMore
import Derived.WideKeyRuns
import Derived.Carry
import Derived.Laws.MakeOwn
set_option linter.unusedSimpArgs false
set_option linter.unusedVariables false
set_option maxRecDepth 100000
set_option maxHeartbeats 16000000
namespace Go.Proofs.YtojojebildofnaaGreatDoor
open Go Go.RowKit Go.Proofs.Tryz
open Go.Lib renaming hid → Xj, strCells → Zp
open _root_.List renaming getElem?_eq_getElem → Xk, mem_of_getElem? → Xl, map_cons → Xm, getElem?_eq_some_iff → Xn, length_take → Xp, take_length → Xq, length_append → Xv, length_cons → Xx, getElem?_map → Xy, all_eq_true → XA, length_map → XB, getD_eq_getElem?_getD → XC, take_of_length_le → XG, getElem?_append_right → XH, mem_map → XN, setIfInBounds_toArray → XO, getElem?_take_of_lt → XP, set_cons_zero → XQ, getElem?_eq_none → XR, length_drop → XS, append_assoc → XV, length_nil → XX, replicate → XY, set_cons_succ → XZ, mem_append → X0, mem_cons → X2, eq_nil_of_length_eq_zero → X4, getElem?_append_left → X5, mem_singleton → X7, range → X8, cons_append → X9, getElem_of_mem → Ya, nil_append → Yb, mem_of_mem_drop → Yc, mem_of_mem_take → Yd, getElem_mem → Ye, append_nil → Yi, ext_getElem? → Yj, getElem?_drop → Yl, take_append_of_le_length → Ym, getElem?_cons_succ → Yw, size_toArray → YG, flatten_cons → YL, flatMap_append → YN, foldl_cons → YO, drop_eq_getElem_cons → YR, mem_range → YS, all_eq_false → YW, length_set → YX, filter_append → YY, mem_cons_of_mem → Y1, map_congr_left → Y4, filter_eq_self → Y5, toList_toArray → Y6, mem_or_eq_of_mem_set → Y9, take_zero → Zb, mem_map_of_mem → Zd, length_filter_le → Ze, take_succ_eq_append_getElem → Zf, length_pos_iff → Zl, foldl_append → Zm, filter_filter → Zt, getElem?_take → Zu, flatMap_cons → Zy, filter_eq_nil_iff → Zz, mem_filter → ZB, flatMap_nil → ZE, filter_cons → ZF, eq_of_mem_replicate → ZH, take_succ_cons → ZS, map_map → Z6, map_set → Z7, getElem?_range → z', getElem_map → B', mem_flatten → C', filter_congr → J', mem_append_left → N', flatten_append → _b, range_succ → _f, getElem?_toArray → _r
open Go.World renaming size_alloc → Xs, heap_drewN → Xu, size_drew → Xw, cell? → YU, cell?_of_block → Zw, setRow → ZU, ownsRow_nil → I', alloc_eq → _k
open _root_.Bool renaming and_eq_true → Xt, and_self → Yq, true_and → Ys, and_true → YA, false_eq_true → YB, or_eq_false_iff → Zx, not_eq_true' → ZO
open _root_.Nat renaming le_refl → Xz, zero_le → XD, zero_add → XE, lt_or_ge → XM, add_zero → XT, mul_le_mul_right → Yt, lt_of_lt_of_le → Yx, le_trans → Yy, sub_self → YF, succ_mul → YP, lt_trichotomy → Y7, add_assoc → Zh, sub_zero → Zj, mul_comm → ZA, add_mul → ZC, eq_zero_or_pos → ZG, div_lt_of_lt_mul → ZK, le_mul_of_pos_right → _j
open _root_.Option renaming map_eq_some_iff → XJ, some → XW, map_some → Yg, getD_some → Yp, bind_some → Y0, map_none → Zq
open _root_.Array renaming getElem?_toList → X6, getElem?_eq_none → Yo, getD_eq_getD_getElem? → Yv, getElem?_eq_some_iff → Yz, getElem?_eq_getElem → YQ, getElem?_modify → Y3, replicate → Za, length_toList → ZR, mem_of_getElem? → Z1, ext' → D', toList_map → U', getElem?_setIfInBounds_ne → _q, eq_empty_of_size_eq_zero → _s, range → _v
open _root_.ByteArray renaming size_extract → YT, size_append → ZD, ext → ZV, data_append → Z0, toList_eq → _a
open _root_.Int renaming eq_ofNat_of_zero_le → ZN, le_refl → ZW, toNat_of_nonneg → A'
theorem a5P {p:Prop}(h:p:=by
 rcases XM b w.heap.size with h'|h'
 ·exact h'
 ·simp[Yo h']at h):p:=h
theorem a5X {p:Prop}(h:p:=by
 rcases XM b w.heap.size with h|h
 ·exact h
 ·simp[Yo h]at hb):p:=h
theorem aa {p : Prop} (h : p := by omega) : p := h
theorem ah {p : Prop} (h : p := by simp) : p := h
theorem aJ {p : Prop} (h : p := by kernel_rfl) : p := h
theorem gT {p : Prop} (h : p := by assumption) : p := h
theorem cG {p : Prop} (h : p := by with_reducible rfl) : p := h
theorem ny {p : Prop} (h : p := by first | exact .inl rfl | exact .inr rfl) : p := h
theorem OE {p : Prop} (h : p := by first | assumption | fail) : p := h
theorem aK {p : Prop} (h : p := by simp; omega) : p := h
theorem mR {p : Prop} (h : p := by decide) : p := h
theorem lj {p : Prop} (h : p := by grind) : p := h
theorem uG {p : Prop} (h : p := by unfold maxLen; omega) : p := h
theorem LL {p : Prop} (h : p := by go_simp; rfl) : p := h
theorem af {c : Prop} {h : Decidable c} (k : ¬c) {α : Sort _} {t e : α} : (ite c t e) = e := if_neg k
theorem aj {c : Prop} {h : Decidable c} (k : c) {α : Sort _} {t e : α} : (ite c t e) = t := if_pos k
abbrev cM (w w':World):Prop:=Below w.heap.size w w'
structure Bel (B:Nat)(a w:World):Prop where
 bel:Below B a w
 le:B<=w.heap.size
theorem Bel.refl (w:World):Bel w.heap.size w w:=⟨Below.refl _ _,Xz _⟩
theorem Bel.alloc {B:Nat}{a w:World}(h:Bel B a w)(o:Obj):Bel B a (w.alloc o):=⟨h.bel.alloc h.le o,by have:=h.le;simp;omega⟩
theorem Bel.setCell {B:Nat}{a w:World}(h:Bel B a w){p:Addr}(hp:B<=p.block)(u:Value):Bel B a (w.setCell p u):=
 ⟨h.bel.setCell hp u,by have:=h.le;simpa[World.setCell]using this⟩
theorem Bel.setCell0 {B:Nat}{a w:World}(h:Bel B a w){b o:Nat}(hp:B<=b)(u:Value):Bel B a (w.setCell ⟨b,o,none⟩ u):=h.setCell (p:=⟨b,o,none⟩) hp u
theorem Bel.drewN {B:Nat}{a w:World}(h:Bel B a w)(n:Nat):Bel B a (w.drewN n):=⟨below_drewN h.bel n,h.le⟩
theorem Bel.drew {B:Nat}{a w:World}(h:Bel B a w):Bel B a w.drew:=⟨h.bel.drew,h.le⟩
theorem Bel.call {B:Nat}{a w w':World}(h:Bel B a w)(k:cM w w'):Bel B a w':=⟨h.bel.trans (k.mono h.le),Yy h.le k.size⟩
theorem Bel.ext {a w:World}(h:Bel a.heap.size a w):cM a w:=h.bel
theorem Bel.cell {B:Nat}{a w:World}(h:Bel B a w){b off:Nat}{v:Value}(hb:b < B)(hc:a.cell? ⟨b,off,none⟩=some v):w.cell? ⟨b,off,none⟩=some v:=
 (h.bel.cell (p:=⟨b,off,none⟩) hb).trans hc
theorem aV {W w1:World}(hb:cM W w1):(∀b o,b < W.heap.size->w1.cell? ⟨b,o,none⟩=W.cell? ⟨b,o,none⟩)/\(∀b o,b < W.heap.size->w1.frozen? ⟨b,o,none⟩=W.frozen? ⟨b,o,none⟩):=
 ⟨fun b o h=>hb.cell (p:=⟨b,o,none⟩) h,fun b o h=>hb.frozen (p:=⟨b,o,none⟩) h⟩
theorem bv {W w1:World}(hb:cM W w1):W.heap.size<=w1.heap.size:=hb.size
theorem ae (w:World)(a:Addr)(v:Value):(w.setCell a v).heap.size=w.heap.size:=by simp[World.setCell]
theorem aU {X w1:World}(h:cM X w1){b o:Nat}{v:Value}(hc:X.cell? ⟨b,o,none⟩=some v):w1.cell? ⟨b,o,none⟩=some v:=
 (h.cell (p:=⟨b,o,none⟩) (World.block_lt_of_cell? X ⟨b,o,none⟩ hc)).trans hc
abbrev nC:=Nat->Prop
def oI (w:World)(b off:Nat)(cs:List Value):Prop:=∀i (h:i < cs.length),w.cell? ⟨b,off+i,none⟩=some cs[i]
structure Sl {α:Type}(A:nC)(w:World)(k:Nat)(R:List Value->α->Prop)(ao:Option Addr)(cap:Nat)(l:List α):Prop where
 cap_le:l.length<=cap
 cap_max:cap<=9223372036854775807
 elem:∀i (h:i < l.length),∃b off cs,ao=some ⟨b,off,none⟩/\A b/\cs.length=k/\R cs l[i]/\oI w b (off+i*k) cs
theorem cW {w:World}{b off:Nat}{v:Value}(h:w.cell? ⟨b,off,none⟩=some v):b < w.heap.size:=by
 rcases XM b w.heap.size with hb|hb
 ·exact hb
 ·simp[YU,Yo hb]at h
theorem aw {w:World}{b o:Nat}{cs:Array Value}{t:TypeId}{f:Nat × Nat}{v:Value}(h:w.heap[b]? =some (.cells cs t f))(hv:cs[o]? =some v):w.cell? ⟨b,o,none⟩=some v:=by
 simp[YU,h,hv]
theorem fm {w:World}{b o:Nat}{cs:Array Value}{t:TypeId}(h:w.heap[b]? =some (.cells cs t (0,0))):w.frozen? ⟨b,o,none⟩=false:=by
 simp[World.frozen?,h]
theorem pN {w w':World}{base:Nat}{e:TypeId}{size n:Nat}{v:Value}{xs:List Value}{b:Nat}{o:Obj}(bj:w.ownsRow base e size v n xs)(hg:w.grownBy w' v.ownBlock)
 (hb:w.heap[b]? =some o) (bH:∀cur,o≠ .cells cur e (0,0)):w'.heap[b]? =some o:=by
 have hlt:b < w.heap.size:=a5X
 refine(hg.block b hlt ?_).trans hb;intro he;obtain⟨_,h|⟨g,cap,cur,rfl,_,hh,_⟩⟩:=bj
 ·rw[h.1]at he;cases he
 ·simp only[Value.ownBlock,XW.injEq]at he;rw[<-he,hb]at hh;exact bH cur (by simpa using hh)
theorem Bel.grownOwn {B:Nat}{a w w':World}{base:Nat}{e:TypeId}{size n:Nat}{v:Value}{xs:List Value}(h:Bel B a w)(bj:w.ownsRow base e size v n xs)(hg:w.grownBy w' v.ownBlock)(hB:B<=base):Bel B a w':=
 ⟨h.bel.grown hg h.le (fun k hk=>by
  obtain⟨_,h|⟨g,cap,cur,rfl,SS,_⟩⟩:=bj
  ·rw[h.1]at hk;cases hk
  ·simp only[Value.ownBlock,XW.injEq]at hk;omega),Yy h.le hg.size⟩
theorem bP {w:World}{o:Obj}{b:Nat}{x:Obj}(h:w.heap[b]? =some x):(w.alloc o).heap[b]? =some x:=by
 have hlt:b < w.heap.size:=a5P
 rw[Below.heap_alloc _ _ _ hlt,h]
theorem aZ (w:World)(o:Obj):(w.alloc o).heap[w.heap.size]? =some o:=by
 show (w.heap.push o)[w.heap.size]? =_;simp
theorem l6 {w:World}{n:Nat}(o:Obj)(h:w.heap.size=n):(w.alloc o).heap[n]? =some o:=by subst h;exact aZ w o
theorem ki {w:World}{b:Nat}:w.drew.heap[b]? =w.heap[b]? :=rfl
theorem LM (w:World)(cs:List Value)(t:TypeId):∀j u,cs[j]? =some u->(w.alloc (.cells cs.toArray t)).cell? ((⟨w.heap.size,0,none⟩:Addr).add j)=some u:=by
 intro j u h;have ha:((⟨w.heap.size,0,none⟩:Addr).add j)=⟨w.heap.size,j,none⟩:=by
  unfold Addr.add;split<;>simp_all
 rw[ha];exact aw (aZ _ _) (by simpa using h)
theorem iR {w:World}{b o:Nat}{c:Array Value}{t:TypeId}{f:Nat × Nat}(h:w.heap[b]? =some (.cells c t f))(v:Value):(w.setCell ⟨b,o,none⟩ v).heap[b]? =some (.cells (c.setIfInBounds o v) t f):=by
 simp[World.setCell,Y3,h]
theorem df {w:World}{b:Nat}{a:Addr}(v:Value)(h:a.block≠b):(w.setCell a v).heap[b]? =w.heap[b]? :=Below.heap_setCell _ _ _ _ (fun e=>h e.symm)
theorem uH {w w':World}(hx:cM w w'){b:Nat}{o:Obj}(hb:w.heap[b]? =some o):w'.heap[b]? =some o:=by
 have hlt:b < w.heap.size:=a5X
 rw[hx.block b hlt,hb]
theorem kK {w w':World}(hx:cM w w'){base:Nat}{e:TypeId}{size n:Nat}{v:Value}{xs:List Value}(h:w.ownsRow base e size v n xs):w'.ownsRow base e size v n xs:=by
 obtain⟨h1,h2⟩:=h;refine⟨h1,?_⟩;rcases h2 with h2|⟨g,cap,cur,hv,hg,hh,r⟩
 ·exact .inl h2
 ·exact .inr ⟨g,cap,cur,hv,hg,uH hx hh,r⟩
theorem az (w:World)(o:Obj):cM w (w.alloc o):=((Bel.refl w).alloc o).bel
theorem al {a b c:World}(h:cM a b)(k:cM b c):cM a c:=Below.trans h (Below.mono k h.size)
theorem dM {p:Prop}(h:p:=by(repeat(first|with_reducible assumption|with_reducible exact Bel.refl _|with_reducible refine Bel.alloc ?_ _|with_reducible refine Bel.drewN ?_ _|with_reducible refine Bel.drew ?_|(with_reducible refine Bel.setCell0 ?_ ?_ _;rotate_left;(first|omega|(simp;done)|(simp;omega)))|(with_reducible refine Bel.setCell ?_ (p:=_) ?_ _;rotate_left;(first|(simp;done)|omega|(simp;omega)))|refine Bel.call ?_ gT|(refine EX.bel ?_ gT ?_;rotate_left;(first|omega|(simp;omega)))))):p:=h
theorem a5t {p:Prop}(h:p:=by
 refine⟨h1.1,h1.2.mono ?_⟩;rintro e w' ⟨⟨u,rfl,rfl⟩,hw⟩;exact⟨rfl,hw⟩):p:=h
def ER (W:World)(R:Value->Prop)(e:Ending)(w':World):Prop:=(∃u,e= .returned u/\R u)/\cM W w'
def qUp (P:Program)(W w:World)(R:Value->Prop):Result Next->Prop
 | .ok (.value u) w'=>w'=w/\R u
 | .ok .skip w'=>w'=w/\R undef
 | .ok (.enter f args) w'=>w'=w/\Calls P f args w (ER W R)
 |_=>False
attribute [go_sem] qUp
section
variable {P:Program}{ops:Array Oper}{W:World}{Q:Act->Prop}{o:Oper}{rest:List Oper}{a:Act}
theorem uI {w:World}{v:Value}{r:Result Next}(h:∀R:Value->Prop,R v->qUp P W w R r):Oper.quietUpon P (cM W) w v r:=by
 have h1:=h (·=v) rfl;unfold qUp at h1;unfold Oper.quietUpon;split at h1
 ·exact h1
 ·exact⟨h1.1,h1.2.symm⟩
 ·exact a5t
 ·exact h1.elim
theorem rY {v:Value}(hw:Region.wanted o (yielded ops a.tmps)=true)(h:∀w,cM W w->∀R:Value->Prop,R v->qUp P W w R ((execOp a.eval o).run P w))
 (hn:wpQuiet P ops (cM W) Q rest (a.put o.dst v)):wpQuiet P ops (cM W) Q (o::rest) a:=by
 unfold wpQuiet;rw[aj hw];exact⟨v,fun w hC=>uI (h w hC),hn⟩
theorem rZ (hw:Region.wanted o (yielded ops a.tmps)=false)(hn:wpQuiet P ops (cM W) Q rest (a.put o.dst undef)):wpQuiet P ops (cM W) Q (o::rest) a:=by
 unfold wpQuiet;rw[af (by rw[hw];simp)];exact hn
section
variable {j d:Nat}{v:Value}{W:World}{Q:Act->Prop}
theorem gY {b:Bool}(hd:(ops[j]?).bind (·.dst)=some d)(hv:a.tmps.toList[d]? =some v)(hb:v= .bool b):yielded ops a.tmps j=some b:=by
 subst hb;rw[X6]at hv;simp[yielded,hd,hv]
theorem oJ (hd:(ops[j]?).bind (·.dst)=some d)(hv:a.tmps.toList[d]? =some v)(hb:v=undef):yielded ops a.tmps j=none:=by
 subst hb;rw[X6]at hv;simp[yielded,hd,hv,undef]
theorem H7 (hg:o.guard=some (j,true))(hd:(ops[j]?).bind (·.dst)=some d)(hv:a.tmps.toList[d]? =some v)(hb:v= .bool false)(hn:wpQuiet P ops (cM W) Q rest (a.put o.dst undef)):wpQuiet P ops (cM W) Q (o::rest) a:=
 rZ (by simp[Region.wanted,hg,gY hd hv hb]) hn
theorem H8 (hg:o.guard=some (j,false))(hd:(ops[j]?).bind (·.dst)=some d)(hv:a.tmps.toList[d]? =some v)(hb:v= .bool true)(hn:wpQuiet P ops (cM W) Q rest (a.put o.dst undef)):wpQuiet P ops (cM W) Q (o::rest) a:=
 rZ (by simp[Region.wanted,hg,gY hd hv hb]) hn
theorem H9 {b:Bool}(hg:o.guard=some (j,b))(hd:(ops[j]?).bind (·.dst)=some d)(hv:a.tmps.toList[d]? =some v)(hb:v=undef)(hn:wpQuiet P ops (cM W) Q rest (a.put o.dst undef)):wpQuiet P ops (cM W) Q (o::rest) a:=
 rZ (by simp[Region.wanted,hg,oJ hd hv hb]) hn
theorem dG (hg:o.guard=none):Region.wanted o (yielded ops a.tmps)=true:=by simp[Region.wanted,hg]
theorem ei {b:Bool}(hg:o.guard=some (j,b))(hd:(ops[j]?).bind (·.dst)=some d)(hv:a.tmps.toList[d]? =some v)(hb:v= .bool b):Region.wanted o (yielded ops a.tmps)=true:=by
 simp[Region.wanted,hg,gY hd hv hb]
end
theorem xX {f:FuncId}{args:Array Value}{w:World}{R:Value->Prop}{v:Value}(hw:cM W w)(h:Calls P f args w fun e w'=>e= .returned v/\cM w w')(hR:R v):Calls P f args w (ER W R):=
 h.mono fun _ _ ⟨he,hx⟩=>⟨⟨v,he,hR⟩,hw.trans (hx.mono hw.size)⟩
theorem xY {f:FuncId}{args:Array Value}{w:World}{R:Value->Prop}{v:Value}(hw:cM W w)(h:Calls P f args w fun e w'=>e= .returned v/\w=w')(hR:R v):Calls P f args w (ER W R):=
 h.mono fun _ _ ⟨he,hx⟩=>⟨⟨v,he,hR⟩,hx ▸ hw⟩
theorem r5 {id:Nat}{Q:Exit->Act->World->Prop}{w:World}{l:List Oper}(hm:P.follows .mixedOrders=true)(hB:Region.lexB .any l.toArray=true)
 (h:wpQuiet P l.toArray (cM w) (fun a'=>∀w',cM w w'->Q .normal a' w') l a):(Code.region id l.toArray true).wp P Q a w:=
 wp_region_quiet (C:=cM w) hm hB (Below.refl _ _).drew (by simpa using h)
end
section
variable {P:Program}{ops:Array Oper}{w:World}{Q:Exit->Act->World->Prop}{a:Act}{n:Nat}{listed:Array Bool}
end
theorem b9 {k:IntKind}{a b:Int}(h:a=b):Ending.returned (.int k a)= .returned (.int k b):=by rw[h]
theorem dw {a b:Bool}(h:a=b):Ending.returned (.bool a)= .returned (.bool b):=by rw[h]
theorem a5J {p:Prop}(h:p:=by
 rw[BitVec.ofInt_natCast,BitVec.toNat_ofNat];exact Nat.mod_eq_of_lt aa):p:=h
section
open Go.Proofs
theorem lS (a:Nat)(ha:a < 9223372036854775808):(BitVec.ofInt 64 (a:Int)).toNat=a:=a5J
theorem ES (a b:Nat)(ha:a < 9223372036854775808)(hb:b < 9223372036854775808):bits .and .i64 (a:Int) (b:Int)=((a&&& b:Nat):Int):=by
 have hx:a&&& b < 2 ^ 63:=Nat.and_lt_two_pow _ aa;show IntKind.i64.wrap ((BitVec.ofInt 64 (a:Int)&&& BitVec.ofInt 64 (b:Int)).toNat:Int)=_;rw[BitVec.toNat_and,lS a ha,lS b hb,IntKind.wrap_i64];omega
end
theorem a4N {p:Prop}(h:p:=by
 rw[YW];refine⟨n,?_,by simp[eG]⟩;rw[hn.out];match j,hlt with
 |0,_|1,_|2,_|3,_|4,_|5,_|6,_|7,_|8,_=>simp[WCmd.nums]):p:=h
theorem a6j {p:Prop}(h:p:=by
 exact pN (h1.alloc o) hg (bP h2) (by intro cur hc;cases hc)):p:=h
section
open Go.Proofs
theorem r6 (b:Nat)(w:World)(c0:Value)(hc:w.cell? ⟨b,0,none⟩=some c0):
 Calls prog 49 #[.pointer (some ⟨b,0,none⟩)] w fun e w'=>
  e= .returned (.slice (some ⟨w.heap.size,0,none⟩) 9 9)/\w'=(w.alloc (.cells #[.pointer (some ⟨b,1,none⟩),.pointer (some ⟨b,2,none⟩),.pointer (some ⟨b,3,none⟩),.pointer (some ⟨b,4,none⟩),.pointer (some ⟨b,5,none⟩),.pointer (some ⟨b,6,none⟩),.pointer (some ⟨b,7,none⟩),.pointer (some ⟨b,8,none⟩),.pointer (some ⟨b,9,none⟩)] 124)).drew:=by
 go_enter func49,ntmps49
 go_wp2_with fail
 go_region
 go_wp2_with fail
 go_ret
 exact⟨rfl,rfl⟩
structure WCmd where
 op:Int
 a:Int
 b:Int
 c:Int
 at_:Int
 len:Int
 min:Int
 max:Int
 usual:Int
 cool:Int
 deriving DecidableEq
def WCmd.nums (c:WCmd):List Int:=[c.a,c.b,c.c,c.at_,c.len,c.min,c.max,c.usual,c.cool]
def WCmd.cs (c:WCmd):Array Value:=#[.int .i64 c.op,.int .i64 c.a,.int .i64 c.b,.int .i64 c.c,.int .i64 c.at_,.int .i64 c.len,.int .i64 c.min,.int .i64 c.max,.int .i64 c.usual,.int .i64 c.cool]
def l7 (n:Int):Bool:=decide (-2147483648<=n)&&decide (n<=2147483647)
def xF (n:Int):List Int:=[n / 16777216 % 256,n / 65536 % 256,n / 256 % 256,n % 256]
theorem sS:(prog.info? 5).map (fun i=>(i.zero,i.size,i.bytes))=some (some (.int .u8 0),1,1):=aJ
def Df (b:Nat):Array Value:=#[.pointer (some ⟨b,1,none⟩),.pointer (some ⟨b,2,none⟩),.pointer (some ⟨b,3,none⟩),.pointer (some ⟨b,4,none⟩),.pointer (some ⟨b,5,none⟩),.pointer (some ⟨b,6,none⟩),.pointer (some ⟨b,7,none⟩),.pointer (some ⟨b,8,none⟩),.pointer (some ⟨b,9,none⟩)]
theorem OF (b j:Nat)(h:j < 9):(Df b)[j]? =some (.pointer (some ⟨b,j+1,none⟩)):=by
 match j,h with
 |0,_|1,_|2,_|3,_|4,_|5,_|6,_|7,_|8,_=>rfl
theorem a0N (c:WCmd)(j:Nat)(h:j < 9):c.cs[j+1]? =some (.int .i64 (c.nums.getD j 0)):=by
 match j,h with
 |0,_|1,_|2,_|3,_|4,_|5,_|6,_|7,_|8,_=>rfl
theorem qH (c:WCmd)(j:Nat)(h:j < 9):c.nums.take (j+1)=c.nums.take j++[c.nums.getD j 0]:=by
 match j,h with
 |0,_|1,_|2,_|3,_|4,_|5,_|6,_|7,_|8,_=>rfl
def eI (xs:List Int):List Value:=xs.map (.int .u8)
def OG (c:WCmd)(w:World)(n:Nat)(xs:List Int)(v:Value)(wr:World):Prop:=
 wr.ownsRow (w.heap.size+1) 5 1 v n (eI xs)/\wr.heap[w.heap.size]? =some (.cells c.cs 27 (0,0))/\wr.heap[w.heap.size+2]? =some (.cells (Df w.heap.size) 124 (0,0))/\Bel w.heap.size w wr
theorem qI {c:WCmd}{w wr w1:World}{n:Nat}{xs:List Int}{v v':Value}{x:Int}{o:Obj}(h:OG c w n xs v wr)
 (bj:w1.ownsRow (w.heap.size+1) 5 1 v' (n+1) (eI xs++[.int .u8 x])) (hg:(wr.alloc o).grownBy w1 v.ownBlock):OG c w (n+1) (xs++[x]) v' w1:=by
 obtain⟨h1,h2,h3,h4⟩:=h;refine⟨by simpa[eI]using bj,?_,?_,?_⟩
 ·exact a6j
 ·exact pN (h1.alloc o) hg (bP h3) (by intro cur hc;cases hc)
 ·exact(h4.alloc o).grownOwn (h1.alloc o) hg aa
def l8 (c:WCmd):Value:=if c.nums.all l7 then .tuple #[.string (strOfNums (c.op::c.nums.flatMap xF)),.int .i64 0]else .tuple #[.string ⟨#[]⟩,.int .i64 3]
theorem xZ {P:Program}{w:World}{base e src n:Nat}{v:Value}{xs:List Int}(h:w.ownsRow base e 1 v n (eI xs))(hn:0 < n)(hs:P.underlying src=some (.slice e))(he:P.underlying e=some (.int .u8)):
 ∃g cap,v= .slice (some ⟨g,0,none⟩) n cap/\∀dst,P.underlying dst=some .string->(convert src dst (.slice (some ⟨g,0,none⟩) n cap)).run P w= .ok (.string (strOfNums xs)) w:=by
 obtain⟨hl,h|⟨g,cap,cur,rfl,hg,hh,hle,hm,hs',ht⟩⟩:=h
 ·omega
 ·refine⟨g,cap,rfl,run_convert_bytes_arg w src e hs he g 0 n cap xs (by simpa[eI]using hl) fun i hi=>?_⟩;have H2:xs.length=n:=by simpa[eI]using hl
  refine aw hh ?_;have h1:(cur.toList.take (n*1))[i]? =(eI xs)[i]? :=by rw[ht]
  rw[XP aa,X6]at h1;simp only[XE];rw[h1];simp[eI,Xk (show i < xs.length by omega)]
theorem OH (c:WCmd)(w:World)(h0:0<=c.op)(h1:c.op<=255):
 Calls prog 23 #[.agg c.cs] w fun e w'=>
  e= .returned (l8 c)/\cM w w':=by
 have b8:OG c w 1 [c.op] (.slice (some ⟨w.heap.size+1,0,none⟩) 1 1) ((((w.alloc (.cells c.cs 27)).alloc (.cells #[.int .u8 c.op] 5)).alloc (.cells (Df w.heap.size) 124)).drew):=by
  refine⟨⟨rfl,.inr ⟨w.heap.size+1,1,#[.int .u8 c.op],rfl,Xz _,?_,Xz _,by decide,rfl,rfl⟩⟩,?_,?_,?_⟩
  ·exact ki.trans (bP (by have:=aZ (w.alloc (.cells c.cs 27)) (.cells #[.int .u8 c.op] 5);simpa using this))
  ·exact ki.trans (bP (bP (aZ _ _)))
  ·exact ki.trans (by have:=aZ ((w.alloc (.cells c.cs 27)).alloc (.cells #[.int .u8 c.op] 5)) (.cells (Df w.heap.size) 124);simpa using this)
  ·exact(((Bel.refl w).alloc _).alloc _).alloc _|>.drew
 unfold WCmd.cs Df at b8;replace b8:=Xj b8;unfold WCmd.cs;obtain⟨i0,hi,vT,mW,rT⟩:=info_parts sS;go_enter func23,ntmps23
 go_wp2_with fail
 refine(r6 _ _ (.int .i64 c.op) (by go_simp)).mono ?_;rintro e w1 ⟨rfl,rfl⟩;go_wp2_with fail
 go_loopw [4,23] (fun v k wr=>∃j:Nat,j<=9/\k= .int .i64 j/\(∀n∈c.nums.take j,l7 n=true)/\OG c w (1+4*j) (c.op::(c.nums.take j).flatMap xF) v wr) (fun _ k _=>9 - (intOf k).toNat)
 case atStart=>exact⟨0,by omega,rfl,by simp,b8.out⟩
 case round=>
  obtain⟨j,hj,rfl,bo,hrel⟩:=hrel;by_cases hlt:j < 9
  ·obtain⟨bj,EL,hB2,d4⟩:=hrel;obtain⟨n,hn⟩:∃n,n=c.nums.getD j 0:=⟨_,rfl⟩;have ed:(j:Int) < 9:=aa;have hp:=aw hB2 (OF _ j hlt);have hc:=aw EL (a0N c j hlt);rw[<-hn]at hc;replace bo:=Xj bo;replace hn:=Xj hn;replace EL:=Xj EL;replace hB2:=Xj hB2;by_cases eG:l7 n=true
   ·obtain⟨b1,b2⟩: -2147483648<=n/\n<=2147483647:=by simpa[l7]using eG
    clear eG;clear b8;go_wp2_with fail
    obtain⟨wo,rfl⟩:∃wo:World,wo=wr:=⟨_,rfl⟩;go_loopw [4,8] (fun v2 i wr2=>∃t:Nat,t<=4/\i= .int .i64 (24 - 8*(t:Int))/\OG c w (1+4*j+t) ((c.op::(c.nums.take j).flatMap xF)++(xF n).take t) v2 wr2) (fun _ i _=>(intOf i+8).toNat)
    case atStart=>exact⟨0,by omega,rfl,by simpa using bj,EL.out,hB2.out,d4⟩
    case round=>
     obtain⟨t,ht,rfl,gR,Au,Av,kg⟩:=hrel;clear bj hp hc d4;replace Au:=Xj Au;replace Av:=Xj Av;have hle:=kg.le;match t,ht with
     |0,_=>
      go_wp2_with (at_builtin;refine wpList_append_own _ rfl _ _ 74 rfl (w.heap.size+1) 5 i0 (.int .u8 0) 1 1 underlying74 hi vT mW rT rfl mR _ _ _ rfl (gR.alloc _) ⟨wr.heap.size,0,none⟩ 1 1 [.int .u8 (n / 16777216 % 256)] rfl rfl (cell_one_new _ _ _) (by intro u hu;simp at hu;subst hu;rfl) uG aa aK ?_;intro v' w1 cV fE _)
      have R:=qI (x:=n / 16777216 % 256) ⟨gR,Au.out,Av.out,kg⟩ cV fE;clear cV fE gR Au Av kg;go_roundw
      case rel=>exact⟨0+1,by omega,by go_num,by simpa[xF,eI,Zh]using R⟩
      case measure=>simp[intOf]
     |1,_=>
      go_wp2_with (at_builtin;refine wpList_append_own _ rfl _ _ 74 rfl (w.heap.size+1) 5 i0 (.int .u8 0) 1 1 underlying74 hi vT mW rT rfl mR _ _ _ rfl (gR.alloc _) ⟨wr.heap.size,0,none⟩ 1 1 [.int .u8 (n / 65536 % 256)] rfl rfl (cell_one_new _ _ _) (by intro u hu;simp at hu;subst hu;rfl) uG aa aK ?_;intro v' w1 cV fE _)
      have R:=qI (x:=n / 65536 % 256) ⟨gR,Au.out,Av.out,kg⟩ cV fE;clear cV fE gR Au Av kg;go_roundw
      case rel=>exact⟨1+1,by omega,by go_num,by simpa[xF,eI,Zh]using R⟩
      case measure=>simp[intOf]
     |2,_=>
      go_wp2_with (at_builtin;refine wpList_append_own _ rfl _ _ 74 rfl (w.heap.size+1) 5 i0 (.int .u8 0) 1 1 underlying74 hi vT mW rT rfl mR _ _ _ rfl (gR.alloc _) ⟨wr.heap.size,0,none⟩ 1 1 [.int .u8 (n / 256 % 256)] rfl rfl (cell_one_new _ _ _) (by intro u hu;simp at hu;subst hu;rfl) uG aa aK ?_;intro v' w1 cV fE _)
      have R:=qI (x:=n / 256 % 256) ⟨gR,Au.out,Av.out,kg⟩ cV fE;clear cV fE gR Au Av kg;go_roundw
      case rel=>exact⟨2+1,by omega,by go_num,by simpa[xF,eI,Zh]using R⟩
      case measure=>simp[intOf]
     |3,_=>
      go_wp2_with (at_builtin;refine wpList_append_own _ rfl _ _ 74 rfl (w.heap.size+1) 5 i0 (.int .u8 0) 1 1 underlying74 hi vT mW rT rfl mR _ _ _ rfl (gR.alloc _) ⟨wr.heap.size,0,none⟩ 1 1 [.int .u8 (n % 256)] rfl rfl (cell_one_new _ _ _) (by intro u hu;simp at hu;subst hu;rfl) uG aa aK ?_;intro v' w1 cV fE _)
      have R:=qI (x:=n % 256) ⟨gR,Au.out,Av.out,kg⟩ cV fE;clear cV fE gR Au Av kg;go_roundw
      case rel=>exact⟨3+1,by omega,by go_num,by simpa[xF,eI,Zh]using R⟩
      case measure=>simp[intOf]
     |4,_=>
      go_wp2_with fail
      go_roundw
      case rel=>exact⟨j+1,by omega,by go_num,(by
       intro m hm;rw[qH c j hlt]at hm;rcases X0.1 hm with hm|hm
       ·exact bo.out m hm
       ·rw[X7.1 hm,<-hn.out];simp[l7,b1,b2]),(by
       rw[qH c j hlt,YN,<-hn.out];exact⟨by rw[show 1+4*(j+1)=1+4*j+4 from by omega];simpa[xF,eI]using gR,Au.out,Av.out,kg⟩)⟩
      case measure=>simp[intOf];omega
   ·clear b8;replace eG:=(Bool.not_eq_true _).mp eG;have bH:(wrap64 (wrap32 n) !=n)=true:=by
     rw[bne_iff_ne];intro he;have:¬(-2147483648<=n/\n<=2147483647):=by intro hh;simp[l7,hh]at eG
     unfold wrap64 wrap32 at he;omega
    have hr:l8 c= .tuple #[.string ⟨#[]⟩,.int .i64 3]:=by
     have:c.nums.all l7=false:=a4N
     unfold l8;rw[this];rfl
    replace hr:=Xj hr;go_wp2_with fail
    go_ret2
    exact⟨by rw[hr.out];rfl,d4.bel⟩
  ·obtain rfl:j=9:=aa;clear b8 hlt;obtain⟨bj,-,-,d4⟩:=hrel;obtain⟨g,cap,rfl,mI⟩:=xZ (P:=prog) bj aa underlying74 underlying5;replace mI:=mI 9 underlying9;have hr:l8 c= .tuple #[.string (strOfNums (c.op::c.nums.flatMap xF)),.int .i64 0]:=by
    have:c.nums.all l7=true:=by
     rw[XA];exact bo
    unfold l8;rw[this];rfl
   have ht:c.nums.take 9=c.nums:=rfl;rw[ht]at mI;replace hr:=Xj hr;clear bj bo ht;go_wp2_with fail
   go_ret2
   exact⟨by rw[hr.out];rfl,d4.bel⟩
end
section
open Go.Proofs
def dH (n lo hi:Int):Bool:=decide (lo<=n)&&decide (n<=hi)
theorem gZ (n lo hi:Int)(w:World):
 Calls prog 55 #[.int .i64 n,.int .i64 lo,.int .i64 hi] w fun e w'=>e= .returned (.bool (dH n lo hi))/\w=w':=by
 by_cases h1:lo<=n
 ·by_cases h2:n<=hi
  ·have hr:dH n lo hi=true:=by simp[dH,h1,h2]
   replace hr:=Xj hr;go_enter func55,ntmps55
   go_wp2_with fail
   go_ret
   first|exact⟨dw hr.out.symm,rfl⟩|exact⟨rfl,rfl⟩
  ·have hr:dH n lo hi=false:=by simp[dH,h2]
   replace hr:=Xj hr;go_enter func55,ntmps55
   go_wp2_with fail
   go_ret
   first|exact⟨dw hr.out.symm,rfl⟩|exact⟨rfl,rfl⟩
 ·have hr:dH n lo hi=false:=by simp[dH,h1]
  replace hr:=Xj hr;go_enter func55,ntmps55
  go_wp2_with fail
  go_ret
  first|exact⟨dw hr.out.symm,rfl⟩|exact⟨rfl,rfl⟩
end
theorem a6g {p:Prop}(h:p:=by
 simp at hu;subst hu;simp[Addr.add]):p:=h
section
open Go.Proofs
def WCmd.ns (c:WCmd):Array Value:=#[.int .i64 c.a,.int .i64 c.b,.int .i64 c.c,.int .i64 c.at_,.int .i64 c.len,.int .i64 c.min,.int .i64 c.max,.int .i64 c.usual,.int .i64 c.cool]
theorem VA (c:WCmd)(j:Nat)(h:j < 9):c.ns[j]? =some (.int .i64 (c.nums.getD j 0)):=by
 match j,h with
 |0,_|1,_|2,_|3,_|4,_|5,_|6,_|7,_|8,_=>rfl
theorem wj (c:WCmd)(w:World):
 Calls prog 45 #[.agg c.cs] w fun e w'=>e= .returned (.agg c.ns)/\cM w w':=by
 unfold WCmd.cs WCmd.ns;go_enter func45,ntmps45
 go_wp2_with fail
 refine bodyPost_ret (v:= .agg c.ns) (by simp[results,results45,go_sem];rfl) rfl ⟨rfl,Bel.bel (B:=_) ?_⟩;exact dM
def WCmd.ok (c:WCmd):Bool:=dH c.op 0 255&&c.nums.all l7
theorem x6 (c:WCmd)(w:World):
 Calls prog 26 #[.agg c.cs] w fun e w'=>e= .returned (.int .i64 (if c.ok then 0 else 3))/\cM w w':=by
 obtain⟨r,hr⟩:∃r,r=(if c.ok then (0:Int)else 3):=⟨_,rfl⟩;rw[<-hr];replace hr:=Xj hr;cases mP:dH c.op 0 255
 case false=>
  have h3:r=3:=by rw[hr.out];simp[WCmd.ok,mP]
  subst h3;unfold WCmd.cs;go_enter func26,ntmps26
  go_wp2_with (go_at_call 55;refine(gZ _ _ _ _).mono ?_;rintro e w1 ⟨rfl,rfl⟩)
  go_ret
  refine⟨rfl,Bel.bel (B:=_) ?_⟩;exact dM
 case true=>
  unfold WCmd.cs;go_enter func26,ntmps26
  go_wp2_with (go_at_call 55;refine(gZ _ _ _ _).mono ?_;rintro e w1 ⟨rfl,rfl⟩)
  refine(wj c _).mono ?_;rintro e w1 ⟨rfl,ci⟩;unfold WCmd.ns;go_wp2_with fail
  have hB:∀j,j < 9->(w1.alloc (.cells #[.int .i64 c.a,.int .i64 c.b,.int .i64 c.c,.int .i64 c.at_,.int .i64 c.len,.int .i64 c.min,.int .i64 c.max,.int .i64 c.usual,.int .i64 c.cool] 114)).cell? ⟨w1.heap.size,j,none⟩=some (.int .i64 (c.nums.getD j 0)):=
   fun j hj=>aw (aZ _ _) (VA c j hj)
  have d4:Bel w.heap.size w (w1.alloc (.cells #[.int .i64 c.a,.int .i64 c.b,.int .i64 c.c,.int .i64 c.at_,.int .i64 c.len,.int .i64 c.min,.int .i64 c.max,.int .i64 c.usual,.int .i64 c.cool] 114)):=by
   exact dM
  replace d4:=Xj d4;replace hB:=Xj hB;clear ci;go_loop [4] (fun k=>∃j:Nat,j<=9/\k= .int .i64 j/\(∀n∈c.nums.take j,l7 n=true)) (fun k=>9 - (intOf k).toNat)
  case atStart=>exact⟨0,by omega,rfl,by simp⟩
  case round=>
   obtain⟨j,hj,rfl,bo⟩:=hrel;by_cases hlt:j < 9
   ·have ed:(j:Int) < 9:=aa;obtain⟨n,hn⟩:∃n,n=c.nums.getD j 0:=⟨_,rfl⟩;have hc:=hB.out j hlt;rw[<-hn]at hc;replace hn:=Xj hn;replace bo:=Xj bo;cases eG:l7 n
    case true=>
     have a1t:dH n (-2147483648) 2147483647=true:=eG;clear eG;go_wp2_with (go_at_call 55;refine(gZ _ _ _ _).mono ?_;rintro e w2 ⟨rfl,rfl⟩)
     go_round
     case rel=>exact⟨j+1,by omega,by go_num,(by
      intro m hm;rw[qH c j hlt]at hm;rcases X0.1 hm with hm|hm
      ·exact bo.out m hm
      ·rw[X7.1 hm,<-hn.out];exact a1t)⟩
     case measure=>simp[intOf];omega
    case false=>
     have a1t:dH n (-2147483648) 2147483647=false:=eG;have h3:r=3:=by
      have:c.nums.all l7=false:=a4N
      rw[hr.out];simp[WCmd.ok,this]
     subst h3;clear eG;go_wp2_with (go_at_call 55;refine(gZ _ _ _ _).mono ?_;rintro e w2 ⟨rfl,rfl⟩)
     go_ret
     exact⟨rfl,d4.out.bel⟩
   ·obtain rfl:j=9:=aa;have h3:r=0:=by
     have:c.nums.all l7=true:=by
      rw[XA];exact bo
     rw[hr.out];simp[WCmd.ok,this,mP]
    subst h3;clear bo hlt;go_wp2_with fail
    go_ret
    exact⟨rfl,d4.out.bel⟩
def S8 (c:WCmd)(w:World)(nb n:Nat)(xs:List Int)(v:Value)(wr:World):Prop:=
 wr.ownsRow (w.heap.size+1) 5 1 v n (eI xs)/\wr.heap[nb]? =some (.cells c.ns 114 (0,0))/\Bel w.heap.size w wr
theorem LN {c:WCmd}{w wr w1:World}{nb n:Nat}{xs:List Int}{v v':Value}{x:Int}{o:Obj}(h:S8 c w nb n xs v wr)
 (bj:w1.ownsRow (w.heap.size+1) 5 1 v' (n+4) (eI xs++[.int .u8 (x / 16777216 % 256),.int .u8 (x / 65536 % 256),.int .u8 (x / 256 % 256),.int .u8 (x % 256)])) (hg:(wr.alloc o).grownBy w1 v.ownBlock):S8 c w nb (n+4) (xs++xF x) v' w1:=by
 obtain⟨h1,h2,h4⟩:=h;refine⟨by simpa[eI,xF]using bj,?_,?_⟩
 ·exact a6j
 ·exact(h4.alloc o).grownOwn (h1.alloc o) hg aa
theorem ta (c:WCmd)(w:World)(h0:0<=c.op)(h1:c.op<=255)(bo:∀n∈c.nums,l7 n=true):
 Calls prog 21 #[.agg c.cs] w fun e w'=>e= .returned (.string (strOfNums (c.op::c.nums.flatMap xF)))/\cM w w':=by
 unfold WCmd.cs;obtain⟨i0,hi,vT,mW,rT⟩:=info_parts sS;replace bo:=Xj bo;go_enter func21,ntmps21
 go_wp2_with fail
 refine(wj c _).mono ?_;rintro e w1 ⟨rfl,ci⟩;unfold WCmd.ns;go_wp2_with fail
 have b8:S8 c w w1.heap.size 1 [c.op] (.slice (some ⟨w.heap.size+1,0,none⟩) 1 1) (w1.alloc (.cells c.ns 114)):=by
  have hz:=ci.size;simp at hz;have hb:w1.heap[w.heap.size+1]? =some (.cells #[.int .u8 c.op] 5 (0,0)):=by
   have h1:=ci.block (w.heap.size+1) ah;rw[h1];have:=aZ (w.alloc (.cells c.cs 27)) (.cells #[.int .u8 c.op] 5);simpa[WCmd.cs]using this
  refine⟨⟨rfl,.inr ⟨w.heap.size+1,1,#[.int .u8 c.op],rfl,Xz _,bP hb,Xz _,by decide,rfl,rfl⟩⟩,aZ _ _,?_⟩;exact dM
 unfold WCmd.ns at b8;replace b8:=Xj b8;clear ci;go_loopw [3,5] (fun v k wr=>∃j:Nat,j<=9/\k= .int .i64 j/\S8 c w w1.heap.size (1+4*j) (c.op::(c.nums.take j).flatMap xF) v wr) (fun _ k _=>9 - (intOf k).toNat)
 case atStart=>exact⟨0,by omega,rfl,b8.out⟩
 case round=>
  obtain⟨j,hj,rfl,hrel⟩:=hrel;clear b8;by_cases hlt:j < 9
  ·have ed:(j:Int) < 9:=aa;obtain⟨bj,hB,d4⟩:=hrel;obtain⟨n,hn⟩:∃n,n=c.nums.getD j 0:=⟨_,rfl⟩;have eG:l7 n=true:=bo.out n (by
    rw[hn];match j,hlt with
    |0,_|1,_|2,_|3,_|4,_|5,_|6,_|7,_|8,_=>simp[WCmd.nums])
   obtain⟨b1,b2⟩: -2147483648<=n/\n<=2147483647:=by simpa[l7]using eG
   clear eG;have hc:=aw hB (VA c j hlt);rw[<-hn]at hc;replace hn:=Xj hn;replace hB:=Xj hB;have hle:=d4.le;go_wp2_with (at_builtin;refine wpList_append_own _ rfl _ _ 74 rfl (w.heap.size+1) 5 i0 (.int .u8 0) 1 1 underlying74 hi vT mW rT rfl mR _ _ _ rfl (bj.alloc _) ⟨wr.heap.size,0,none⟩ 4 4 [.int .u8 (n / 16777216 % 256),.int .u8 (n / 65536 % 256),.int .u8 (n / 256 % 256),.int .u8 (n % 256)] rfl rfl ?c1 ?c2 uG aa aK ?_;rotate_right;intro v' w2 cV fE _)
   case c1=>
    intro u x hu;match u,hu with
    |0,hu|1,hu|2,hu|3,hu=>exact a6g
   case c2=>intro u hu;simp at hu;rcases hu with rfl|rfl|rfl|rfl<;>rfl
   have R:=LN (x:=n) ⟨bj,hB.out,d4⟩ cV fE;clear cV fE bj hB d4;go_roundw
   case rel=>exact⟨j+1,by omega,by go_num,by
    rw[qH c j hlt,YN,<-hn.out,show 1+4*(j+1)=1+4*j+4 from by omega];simpa using R⟩
   case measure=>simp[intOf];omega
  ·obtain rfl:j=9:=aa;obtain⟨bj,-,d4⟩:=hrel;obtain⟨g,cap,rfl,mI⟩:=xZ (P:=prog) bj aa underlying74 underlying5;replace mI:=mI 9 underlying9;have ht:c.nums.take 9=c.nums:=rfl;rw[ht]at mI;clear bj ht bo;go_wp2_with fail
   go_ret
   exact⟨rfl,d4.bel⟩
end
section
open Go.Proofs
def aM (s:ByteArray):List Int:=s.data.toList.map fun b=>(b.toNat:Int)
theorem fp (s:ByteArray):(aM s).length=s.size:=by unfold aM;rw[XB,ZR];rfl
theorem x7 (s:ByteArray):strOfNums (aM s)=s:=by
 unfold strOfNums aM;rw[Z6];have:(s.data.toList.map ((fun n:Int=>UInt8.ofNat n.toNat)∘fun b=>(b.toNat:Int)))=s.data.toList:=by
  rw[Y4 (g:=id)]
  ·simp
  ·intro b _;simp
 rw[this]
def ll (n:Int):Prop:=0<=n/\n<=255
theorem fT (s:ByteArray):∀n∈aM s,ll n:=by
 intro n hn;obtain⟨b,_,rfl⟩:=XN.1 hn;have:=b.toNat_lt;exact⟨by omega,by omega⟩
theorem r7 (xs:List Int)(h:∀n∈xs,ll n):aM (strOfNums xs)=xs:=by
 unfold strOfNums aM;simp only[Z6];have:xs.map ((fun b:UInt8=>(b.toNat:Int))∘fun n=>UInt8.ofNat n.toNat)=xs:=by
  rw[Y4 (g:=id)]
  ·simp
  ·intro n hn;obtain⟨h0,h1⟩:=h n hn;simp;omega
 exact this
def r8 (i:Nat):List Int->Int
 |[]=>0
 |x::xs=>((i:Int)+1)*x+r8 (i+1) xs
def lm (l:List Int):Int:=r8 0 l
theorem wk (x:Int):∀(l:List Int) (i:Nat),r8 i (l++[x])=r8 i l+((i+l.length:Nat)+1:Int)*x
 |[],i=>by simp[r8]
 |y::l,i=>by
  simp only[X9,r8,wk x l (i+1),Xx];rw[show i+1+l.length=i+(l.length+1) from by omega];omega
theorem uJ (l:List Int)(x:Int):lm (l++[x])=lm l+((l.length:Int)+1)*x:=by
 unfold lm;rw[wk];simp
theorem Dg (k:Nat)(x:Int)(hk:k<=1000)(h:ll x):0<=((k:Int)+1)*x/\((k:Int)+1)*x<=300000:=by
 obtain⟨h0,h1⟩:=h;refine⟨Int.mul_nonneg aa h0,?_⟩;calc ((k:Int)+1)*x<=((k:Int)+1)*255:=Int.mul_le_mul_of_nonneg_left h1 aa
  _<=300000:=aa
theorem Ia (l:List Int)(hb:∀n∈l,ll n):∀k,k<=l.length->k<=1000->0<=lm (l.take k)/\lm (l.take k)<=300000*k:=by
 intro k;induction k with
 |zero=>intro _ _;simp[lm,r8]
 |succ k ih=>
  intro h1 h2;have hlt:k < l.length:=aa;rw[Zf hlt,uJ];have:=ih aa aa;have hp:=Dg k l[k] aa (hb _ (Ye hlt));have hl:(l.take k).length=k:=aK;rw[hl];push_cast
  omega
theorem x8 (s:ByteArray)(k:Nat)(h:k < s.size):(aM s)[k]'(by rw[fp];exact h)=(s[k].toNat:Int):=by
 simp only[aM,B'];rfl
theorem S9 (s:ByteArray)(w:World)(hs:s.size<=1000):
 Calls prog 54 #[.string s] w fun e w'=>e= .returned (.int .u32 (lm (aM s)))/\w=w':=by
 have hnb:=fT s;have rU:=Ia (aM s) hnb;have EM:=fp s;replace hnb:=Xj hnb;replace rU:=Xj rU;replace EM:=Xj EM;go_enter func54,ntmps54
 go_wp2_with fail
 go_loop [3,7] (fun t i=>∃k:Nat,k<=s.size/\i= .int .i64 k/\t= .int .u32 (lm ((aM s).take k))) (fun _ i=>s.size - (intOf i).toNat)
 case atStart=>exact⟨0,XD _,rfl,rfl⟩
 case round=>
  obtain⟨k,hk,rfl,rfl⟩:=hrel;by_cases hlt:k < s.size
  ·have JO:=x8 s k hlt;have Bq:lm ((aM s).take (k+1))=lm ((aM s).take k)+((k:Int)+1)*(s[k].toNat:Int):=by
    rw[Zf (by rw[EM.out];exact hlt),uJ,JO];congr 2;simp;rw[EM.out];omega
   obtain⟨p1,p2⟩:=Dg k (s[k].toNat:Int) aa ⟨by omega,by have:=s[k].toNat_lt;omega⟩;obtain⟨q1,q2⟩:=rU.out k (by rw[EM.out];omega) aa;obtain⟨q,hq⟩:∃q,q=lm ((aM s).take k):=⟨_,rfl⟩;rw[<-hq]at q1 q2 Bq;replace Bq:=Xj Bq;replace hq:=Xj hq;clear JO;rw[<-hq.out];go_wp2_with fail
   go_round
   case rel=>exact⟨k+1,by omega,by go_num,by
    rw[Bq.out];have hx:=s[k].toNat_lt;have e:((s[k].toNat:Int) % 4294967296)=(s[k].toNat:Int):=aa;rw[e];congr 1;omega⟩
   case measure=>simp[intOf];omega
  ·obtain rfl:k=s.size:=aa;go_wp2_with fail
   go_ret
   exact⟨b9 (by rw[XG (by rw[EM.out];omega)]),rfl⟩
def Oo (n:Int):List Int:=[n % 256,n / 256 % 256,n / 65536 % 256,n / 16777216 % 256]
def qJ (s:ByteArray):List Int:=(s.size:Int)::aM s
def gH (s:ByteArray):ByteArray:=strOfNums (qJ s++Oo (lm (qJ s)))
theorem x9 (s:ByteArray)(h:s.size<=255):∀n∈qJ s,ll n:=by
 intro n hn;rcases X2.1 hn with rfl|hn
 ·exact⟨by omega,by omega⟩
 ·exact fT s n hn
theorem ya (xs ys:List Int):strOfNums (xs++ys)=strOfNums xs++strOfNums ys:=by
 apply ZV;rw[Z0];simp[strOfNums]
theorem ET (a b:ByteArray):aM (a++b)=aM a++aM b:=by
 unfold aM;rw[Z0];simp
theorem OI (n:Nat)(h:n<=255):aM (strOfNums [(n:Int)])=[(n:Int)]:=r7 _ (by intro m hm;rw[X7.1 hm];exact⟨by omega,by omega⟩)
theorem OJ (s:ByteArray)(h:s.size<=255):aM (strOfNums [(s.size:Int)]++s)=qJ s:=by
 rw[ET,OI _ h];rfl
theorem BC (s:ByteArray)(h:s.size<=255):strOfNums [(s.size:Int)]++s++strOfNums (Oo (lm (qJ s)))=gH s:=by
 unfold gH qJ;rw[ya,show ((s.size:Int)::aM s)=[(s.size:Int)]++aM s from rfl,ya,x7]
theorem OK (s:ByteArray)(h:s.size<=255):0<=lm (qJ s)/\lm (qJ s)<=100000000:=by
 have hl:(qJ s).length=s.size+1:=by simp[qJ,fp]
 have:=Ia (qJ s) (x9 s h) (qJ s).length (Xz _) aa;rw[Xq]at this;rw[hl]at this;push_cast at this
 omega
theorem uK (s:ByteArray)(w:World)(hs:s.size<=255):
 Calls prog 25 #[.string s] w fun e w'=>e= .returned (.tuple #[.string (gH s),.int .i64 0])/\cM w w':=by
 have mI:=run_convert_bytes_arg (P:=prog) (w.alloc (.cells #[.int .u8 (s.size:Int)] 5)) 74 5 underlying74 underlying5 w.heap.size 0 1 1 [(s.size:Int)] rfl (fun i hi=>by
  obtain rfl:i=0:=aa;exact aw (aZ _ _) rfl) 9 underlying9
 have hf:=OJ s hs;have JP:=BC s hs;obtain⟨q1,q2⟩:=OK s hs;obtain⟨x,hx⟩:∃x,x=strOfNums [(s.size:Int)]:=⟨_,rfl⟩;have Ov:x.size<=1:=by rw[hx,strOfNums_size];simp
 rw[<-hx]at mI hf JP;obtain⟨y,hy⟩:∃y,y=x++s:=⟨_,rfl⟩;have HB:y.size<=1000:=by rw[hy,ZD];omega
 rw[<-hy]at hf JP;obtain⟨q,hq⟩:∃q,q=lm (qJ s):=⟨_,rfl⟩;rw[<-hq]at JP q1 q2;have a0l:=S9 y (w.alloc (.cells #[.int .u8 (s.size:Int)] 5)) HB;rw[hf,<-hq]at a0l;have RX:=run_convert_bytes_arg (P:=prog) ((w.alloc (.cells #[.int .u8 (s.size:Int)] 5)).alloc (.cells #[.int .u8 (q % 256),.int .u8 (q / 256 % 256),.int .u8 (q / 65536 % 256),.int .u8 (q / 16777216)] 5)) 74 5 underlying74 underlying5 (w.heap.size+1) 0 4 4 [q % 256,q / 256 % 256,q / 65536 % 256,q / 16777216] rfl (fun i hi=>by
  have hb:=aZ (w.alloc (.cells #[.int .u8 (s.size:Int)] 5)) (.cells #[.int .u8 (q % 256),.int .u8 (q / 256 % 256),.int .u8 (q / 65536 % 256),.int .u8 (q / 16777216)] 5);rw[Xs]at hb;match i,hi with
  |0,_|1,_|2,_|3,_=>exact aw hb rfl) 9 underlying9
 have HC:[q % 256,q / 256 % 256,q / 65536 % 256,q / 16777216]=Oo q:=by
  unfold Oo;rw[show q / 16777216 % 256=q / 16777216 from by omega]
 rw[HC]at RX;clear HC;obtain⟨z,hz⟩:∃z,z=strOfNums (Oo q):=⟨_,rfl⟩;have Ow:z.size<=4:=by rw[hz,strOfNums_size];simp[Oo]
 rw[<-hz]at RX JP;have a3r:∀W:World,(Op.stringOp .add x s).run prog W= .ok (.string y) W:=fun W=>by rw[hy];exact run_string_add_sum W x s aa
 have a3i:∀W:World,(Op.stringOp .add y z).run prog W= .ok (.string (gH s)) W:=fun W=>by rw[<-JP];exact run_string_add_sum W y z aa
 replace hx:=Xj hx;replace hy:=Xj hy;replace hq:=Xj hq;replace hz:=Xj hz;replace hf:=Xj hf;replace JP:=Xj JP;go_enter func25,ntmps25
 go_wp2_with fail
 refine a0l.mono ?_;rintro e w1 ⟨rfl,rfl⟩;clear a0l mI;go_wp2_with fail
 go_ret2
 refine⟨rfl,Bel.bel (B:=_) ?_⟩;exact dM
end
section
open Go.Proofs
theorem AS (s:ByteArray):Zp s=eI (aM s):=by
 simp[Zp,eI,aM,Z6,Function.comp_def]
theorem LO {w:World}{base e size n:Nat}{v:Value}{xs:List Value}(h:w.ownsRow base e size v n xs)(hn:0 < n):∃g cap,v= .slice (some ⟨g,0,none⟩) n cap/\base<=g/\n<=cap/\cap<=9223372036854775807:=by
 obtain⟨_,h|⟨g,cap,cur,hv,hg,hh,hc,hm,_⟩⟩:=h
 ·omega
 ·exact⟨g,cap,hv,hg,hc,hm⟩
theorem wl (s:ByteArray)(w:World)(hs:s.size<=255):
 Calls prog 20 #[.string s] w fun e w'=>e= .returned (.string (gH s))/\cM w w':=by
 obtain⟨i0,hi,vT,mW,rT⟩:=info_parts sS;have b8:(w.alloc (.cells #[.int .u8 (s.size:Int)] 5)).ownsRow w.heap.size 5 1 (.slice (some ⟨w.heap.size,0,none⟩) 1 1) 1 [.int .u8 (s.size:Int)]:=
  ⟨rfl,.inr ⟨w.heap.size,1,#[.int .u8 (s.size:Int)],rfl,Xz _,aZ _ _,Xz _,by decide,rfl,rfl⟩⟩
 replace b8:=Xj b8;go_enter func20,ntmps20
 go_wp2_with (at_builtin;go_loud (refine Lib.wpList_append_own_string _ rfl _ _ 74 9 rfl w.heap.size 5 i0 underlying74 underlying9 hi vT mW rT _ 1 _ rfl b8.out s rfl uG aa ah ?_);intro v' w1 bj fE _)
 have bj:w1.ownsRow w.heap.size 5 1 v' (1+s.size) (eI (qJ s)):=by
  rw[AS]at bj;simpa[qJ,eI]using bj
 have d4:Bel w.heap.size w w1:=((Bel.refl w).alloc _).grownOwn b8.out fE (Xz _);obtain⟨g,cap,rfl,hg,hgc,hgm⟩:=LO bj aa;clear fE b8;have gX:(qJ s).length=s.size+1:=by simp[qJ,fp]
 have ck:∀k (h:k < (qJ s).length),w1.cell? ⟨g,k,none⟩=some (.int .u8 (qJ s)[k]):=fun k h=>by
  rw[bj.cellAt k aa];simp[eI,Xk h]
 have lw:=x9 s hs;have rU:=Ia (qJ s) lw;replace bj:=Xj bj;replace d4:=Xj d4;replace ck:=Xj ck;replace lw:=Xj lw;replace rU:=Xj rU;replace gX:=Xj gX;go_wp2_with fail
 go_loop [4,5] (fun t i=>∃k:Nat,k<=s.size+1/\i= .int .i64 k/\t= .int .i64 (lm ((qJ s).take k))) (fun _ i=>s.size+1 - (intOf i).toNat)
 case atStart=>exact⟨0,XD _,rfl,rfl⟩
 case round=>
  obtain⟨k,hk,rfl,rfl⟩:=hrel;by_cases hlt:k < s.size+1
  ·have hkf:k < (qJ s).length:=by rw[gX.out];exact hlt
   have hc:=ck.out k hkf;obtain⟨x,hx⟩:∃x,x=(qJ s)[k]:=⟨_,rfl⟩;have po:ll x:=by rw[hx];exact lw.out _ (Ye hkf)
   rw[<-hx]at hc;have Bq:lm ((qJ s).take (k+1))=lm ((qJ s).take k)+((k:Int)+1)*x:=by
    rw[Zf hkf,uJ,<-hx];congr 2;simp;omega
   obtain⟨p1,p2⟩:=Dg k x aa po;obtain⟨q1,q2⟩:=rU.out k aa aa;obtain⟨q,hq⟩:∃q,q=lm ((qJ s).take k):=⟨_,rfl⟩;rw[<-hq]at q1 q2 Bq;obtain⟨x0,x1⟩:=po;replace Bq:=Xj Bq;replace hq:=Xj hq;replace hx:=Xj hx;rw[<-hq.out];go_wp2_with fail
   go_round
   case rel=>exact⟨k+1,by omega,by go_num,by rw[Bq.out]⟩
   case measure=>simp[intOf];omega
  ·obtain rfl:k=s.size+1:=aa;have hq:lm ((qJ s).take (s.size+1))=lm (qJ s):=by rw[XG (by rw[gX.out];omega)]
   rw[hq];obtain⟨q1,q2⟩:=OK s hs;clear hq hlt ck lw rU;obtain⟨q,hq⟩:∃q,q=lm (qJ s):=⟨_,rfl⟩;rw[<-hq]at q1 q2;rw[<-hq];have HC:q / 16777216=q / 16777216 % 256:=aa;have hle:=d4.out.le;replace hq:=Xj hq;replace HC:=Xj HC;go_wp2_with (at_builtin;refine wpList_append_own _ rfl _ _ 74 rfl w.heap.size 5 i0 (.int .u8 0) 1 1 underlying74 hi vT mW rT rfl mR _ _ _ rfl (bj.out.alloc _) ⟨w1.heap.size,0,none⟩ 4 4 [.int .u8 (q % 256),.int .u8 (q / 256 % 256),.int .u8 (q / 65536 % 256),.int .u8 (q / 16777216)] rfl rfl (LM _ _ _) (by intro u hu;simp at hu;rcases hu with rfl|rfl|rfl|rfl<;>rfl) uG aa aK ?_;intro v' w2 cV fE _)
   have iO:Bel w.heap.size w w2:=(d4.out.alloc _).grownOwn (bj.out.alloc _) fE (Xz _);have gR:w2.ownsRow w.heap.size 5 1 v' (1+s.size+4) (eI (qJ s++Oo q)):=by
    unfold Oo;rw[<-HC.out];simpa[eI]using cV
   obtain⟨g2,cap2,rfl,mI⟩:=xZ (P:=prog) gR aa underlying74 underlying5;replace mI:=mI 9 underlying9;rw[hq.out]at mI;have JP:strOfNums (qJ s++Oo (lm (qJ s)))=gH s:=rfl;rw[JP]at mI;clear gR fE cV bj JP;go_wp2_with fail
   go_simp
   go_wp2_with fail
   go_ret
   exact⟨rfl,iO.bel⟩
end
theorem a5k {p:Prop}(h:p:=by
 rw[<-hv.out];refine⟨(df _ ah).trans EL.out,?_,d4.setCell ah _⟩;rw[iR xS.out,EU _ _ hlt]):p:=h
section
open Go.Proofs
def pB (l:List Int)(i:Nat):Int:=l.getD i 0
def be (l:List Int)(j:Nat):Int:=256*(256*(256*(256*0+pB l (4*j+1))+pB l (4*j+2))+pB l (4*j+3))+pB l (4*j+4)
def LP (n:Int):Int:=if 2147483648<=n then n - 4294967296 else n
def dh (l:List Int)(j:Nat):Int:=LP (be l j)
def kL (l:List Int):WCmd:=⟨pB l 0,dh l 0,dh l 1,dh l 2,dh l 3,dh l 4,dh l 5,dh l 6,dh l 7,dh l 8⟩
theorem ln {l:List Int}(h:∀n∈l,ll n)(i:Nat):0<=pB l i/\pB l i<=255:=by
 unfold pB;rcases XM i l.length with hi|hi
 ·simp only[XC,Xk hi,Yp];exact h _ (Ye hi)
 ·simp[XR hi]
theorem kH (s:ByteArray)(i:Nat)(h:i < s.size):pB (aM s) i=(s[i].toNat:Int):=by
 unfold pB;rw[XC,Xk (by rw[fp];exact h),Yp,x8 s i h]
def AT (f:Nat->Int)(j:Nat):Array Value:=#[.int .i64 (if 0 < j then f 0 else 0),.int .i64 (if 1 < j then f 1 else 0),.int .i64 (if 2 < j then f 2 else 0),.int .i64 (if 3 < j then f 3 else 0),.int .i64 (if 4 < j then f 4 else 0),.int .i64 (if 5 < j then f 5 else 0),.int .i64 (if 6 < j then f 6 else 0),.int .i64 (if 7 < j then f 7 else 0),.int .i64 (if 8 < j then f 8 else 0)]
theorem EU (f:Nat->Int)(j:Nat)(h:j < 9):(AT f j).setIfInBounds j (.int .i64 (f j))=AT f (j+1):=by
 match j,h with
 |0,_|1,_|2,_|3,_|4,_|5,_|6,_|7,_|8,_=>simp[AT]
theorem Ta (f:Nat->Int)(j i:Nat)(h:i < 9):∃v,(AT f j)[i]? =some v:=⟨(AT f j)[i]'(by simp[AT];omega),by simp[AT]⟩
def lE:Array Value:=#[.int .i64 0,.int .i64 0,.int .i64 0,.int .i64 0,.int .i64 0,.int .i64 0,.int .i64 0,.int .i64 0,.int .i64 0,.int .i64 0]
def Tb (l:List Int)(w:World)(j:Nat)(wr:World):Prop:=
 wr.heap[w.heap.size]? =some (.cells lE 27 (0,0))/\wr.heap[w.heap.size+1]? =some (.cells (AT (dh l) j) 114 (0,0))/\Bel w.heap.size w wr
theorem EV (s:ByteArray)(w:World)(hs:s.size=37):
 Calls prog 19 #[.string s] w fun e w'=>e= .returned (.tuple #[.agg (kL (aM s)).cs,.bool true])/\cM w w':=by
 have cL:((s.size:Int) !=37)=false:=by rw[hs];rfl
 have hge:37<=s.size:=aa;clear hs;have b8:Tb (aM s) w 0 ((w.alloc (.cells lE 27)).alloc (.cells #[.int .i64 0,.int .i64 0,.int .i64 0,.int .i64 0,.int .i64 0,.int .i64 0,.int .i64 0,.int .i64 0,.int .i64 0] 114)):=by
  refine⟨bP (aZ _ _),?_,((Bel.refl w).alloc _).alloc _⟩;have:=aZ (w.alloc (.cells lE 27)) (.cells #[.int .i64 0,.int .i64 0,.int .i64 0,.int .i64 0,.int .i64 0,.int .i64 0,.int .i64 0,.int .i64 0,.int .i64 0] 114);simpa[AT]using this
 unfold lE at b8;replace b8:=Xj b8;have Br:=ln (fT s);replace Br:=Xj Br;go_enter func19,ntmps19
 go_wp2_with fail
 go_loopw [5] (fun i wr=>∃j:Nat,j<=9/\i= .int .i64 j/\Tb (aM s) w j wr) (fun i _=>9 - (intOf i).toNat)
 case atStart=>exact⟨0,by omega,rfl,b8.out⟩
 case round=>
  obtain⟨j,hj,rfl,EL,xS,d4⟩:=hrel;clear b8;have hle:=d4.le;by_cases hlt:j < 9
  ·have ed:(j:Int) < 9:=aa;obtain⟨old,hold⟩:=Ta (dh (aM s)) j j hlt;have hc:=aw xS hold;have hf:=fm (o:=j) xS;have e1:=kH s (4*j+1) aa;have e2:=kH s (4*j+2) aa;have e3:=kH s (4*j+3) aa;have e4:=kH s (4*j+4) aa;obtain⟨a1,a2⟩:=Br.out (4*j+1);obtain⟨b1,b2⟩:=Br.out (4*j+2);obtain⟨c1,c2⟩:=Br.out (4*j+3);obtain⟨d1,d2⟩:=Br.out (4*j+4);obtain⟨x1,nq⟩:∃x,x=pB (aM s) (4*j+1):=⟨_,rfl⟩;obtain⟨x2,j5⟩:∃x,x=pB (aM s) (4*j+2):=⟨_,rfl⟩;obtain⟨x3,EN⟩:∃x,x=pB (aM s) (4*j+3):=⟨_,rfl⟩;obtain⟨x4,SU⟩:∃x,x=pB (aM s) (4*j+4):=⟨_,rfl⟩;have Es:dh (aM s) j=LP (256*(256*(256*(256*0+x1)+x2)+x3)+x4):=by rw[nq,j5,EN,SU];rfl
   rw[<-nq]at e1 a1 a2;rw[<-j5]at e2 b1 b2;rw[<-EN]at e3 c1 c2;rw[<-SU]at e4 d1 d2;clear nq j5 EN SU;replace hold:=Xj hold;replace Es:=Xj Es;replace EL:=Xj EL;replace xS:=Xj xS;replace e1:=e1.symm;replace e2:=e2.symm;replace e3:=e3.symm;replace e4:=e4.symm;go_wp2_with fail
   obtain⟨wo,rfl⟩:∃wo:World,wo=wr:=⟨_,rfl⟩;go_loop [6,7] (fun n k=>(n= .int .i64 0/\k= .int .i64 1)\/(n= .int .i64 x1/\k= .int .i64 2)\/(n= .int .i64 (256*x1+x2)/\k= .int .i64 3)\/(n= .int .i64 (256*(256*x1+x2)+x3)/\k= .int .i64 4)\/(n= .int .i64 (256*(256*(256*x1+x2)+x3)+x4)/\k= .int .i64 5)) (fun _ k=>5 - (intOf k).toNat)
   case atStart=>exact .inl ⟨rfl,rfl⟩
   case round=>
    rcases hrel with⟨rfl,rfl⟩|⟨rfl,rfl⟩|⟨rfl,rfl⟩|⟨rfl,rfl⟩|⟨rfl,rfl⟩
    ·go_wp2_with fail
     exact⟨.inr (.inl ⟨rfl,rfl⟩),by simp[intOf]⟩
    ·go_wp2_with fail
     exact⟨.inr (.inr (.inl ⟨rfl,rfl⟩)),by simp[intOf]⟩
    ·go_wp2_with fail
     exact⟨.inr (.inr (.inr (.inl ⟨rfl,rfl⟩))),by simp[intOf]⟩
    ·go_wp2_with fail
     exact⟨.inr (.inr (.inr (.inr ⟨rfl,rfl⟩))),by simp[intOf]⟩
    ·by_cases Bs:2147483648<=256*(256*(256*x1+x2)+x3)+x4
     ·have hv:dh (aM s) j=256*(256*(256*x1+x2)+x3)+x4 - 4294967296:=by
       rw[Es.out];unfold LP;rw[aj aa];omega
      replace hv:=Xj hv;go_wp2_with fail
      have R:Tb (aM s) w (j+1) (wo.setCell ⟨w.heap.size+1,j,none⟩ (.int .i64 (256*(256*(256*x1+x2)+x3)+x4 - 4294967296))):=a5k
      clear d4 hc;go_roundw
      case rel=>exact⟨j+1,by omega,by go_num,R⟩
      case measure=>simp[intOf];omega
     ·have hv:dh (aM s) j=256*(256*(256*x1+x2)+x3)+x4:=by
       rw[Es.out];unfold LP;rw[af aa];omega
      replace hv:=Xj hv;go_wp2_with fail
      have R:Tb (aM s) w (j+1) (wo.setCell ⟨w.heap.size+1,j,none⟩ (.int .i64 (256*(256*(256*x1+x2)+x3)+x4))):=a5k
      clear d4 hc;go_roundw
      case rel=>exact⟨j+1,by omega,by go_num,R⟩
      case measure=>simp[intOf];omega
  ·obtain rfl:j=9:=aa;have e0:=kH s 0 aa;obtain⟨x0,U8⟩:∃x,x=pB (aM s) 0:=⟨_,rfl⟩;obtain⟨a1,a2⟩:=Br.out 0;rw[<-U8]at e0 a1 a2;replace e0:=e0.symm;have lx:∀k,k < 9->wr.cell? ⟨w.heap.size+1,k,none⟩=some (.int .i64 (dh (aM s) k)):=fun k hk=>aw xS (by
    match k,hk with
    |0,_|1,_|2,_|3,_|4,_|5,_|6,_|7,_|8,_=>simp[AT])
   have k0:=lx 0 aa;have k1:=lx 1 aa;have k2:=lx 2 aa;have k3:=lx 3 aa;have k4:=lx 4 aa;have k5:=lx 5 aa;have k6:=lx 6 aa;have k7:=lx 7 aa;have k8:=lx 8 aa;have hz:∀k,k < 10->wr.cell? ⟨w.heap.size,k,none⟩=some (.int .i64 0):=fun k hk=>aw EL (by
    match k,hk with
    |0,_|1,_|2,_|3,_|4,_|5,_|6,_|7,_|8,_|9,_=>rfl)
   have hf:∀k,wr.frozen? ⟨w.heap.size,k,none⟩=false:=fun k=>fm EL;have HD:w.heap.size < wr.heap.size:=cW (hz 0 aa);replace U8:=Xj U8;replace EL:=Xj EL;replace xS:=Xj xS;clear lx hlt;go_wp2_with fail
   have z0:=hz 0 aa;have z1:=hz 1 aa;have z2:=hz 2 aa;have z3:=hz 3 aa;have z4:=hz 4 aa;have z5:=hz 5 aa;have z6:=hz 6 aa;have z7:=hz 7 aa;have z8:=hz 8 aa;have z9:=hz 9 aa;replace hz:=Xj hz;have VO:IntKind.i64.wrap x0=x0:=IntWalk.i64_in _ aa;go_region_held3 (fun w'=>w'.cell? ⟨w.heap.size+1,0,none⟩=some (.int .i64 (dh (aM s) 0))/\w'.cell? ⟨w.heap.size+1,1,none⟩=some (.int .i64 (dh (aM s) 1))/\w'.cell? ⟨w.heap.size+1,2,none⟩=some (.int .i64 (dh (aM s) 2))/\w'.cell? ⟨w.heap.size+1,3,none⟩=some (.int .i64 (dh (aM s) 3))/\w'.cell? ⟨w.heap.size+1,4,none⟩=some (.int .i64 (dh (aM s) 4))/\w'.cell? ⟨w.heap.size+1,5,none⟩=some (.int .i64 (dh (aM s) 5))/\w'.cell? ⟨w.heap.size+1,6,none⟩=some (.int .i64 (dh (aM s) 6))/\w'.cell? ⟨w.heap.size+1,7,none⟩=some (.int .i64 (dh (aM s) 7))/\w'.cell? ⟨w.heap.size+1,8,none⟩=some (.int .i64 (dh (aM s) 8))) (first|simp[*,World.cell?_setCell_far]) (first|fail)
   go_wp2_with fail
   refine bodyPost_ret (v:= .tuple #[.agg (kL (aM s)).cs,.bool true]) ?_ rfl ⟨rfl,Bel.bel (B:=_) ?_⟩
   ·have eV:(kL (aM s)).cs=#[.int .i64 x0,.int .i64 (dh (aM s) 0),.int .i64 (dh (aM s) 1),.int .i64 (dh (aM s) 2),.int .i64 (dh (aM s) 3),.int .i64 (dh (aM s) 4),.int .i64 (dh (aM s) 5),.int .i64 (dh (aM s) 6),.int .i64 (dh (aM s) 7),.int .i64 (dh (aM s) 8)]:=by
     rw[U8.out];rfl
    rw[eV];simp[results,results19,go_sem,z0,z1,z2,z3,z4,z5,z6,z7,z8,z9]
   ·exact dM
end
theorem a4D {p:Prop}(h:p:=by
 rw[<-hv.out];obtain⟨g0,g1,g2,g3⟩:=aQ.out;refine⟨(df _ ah).trans g0,?_,(df _ ah).trans g2,g3.setCell ah _⟩;rw[iR g1,BD _ _ _ hlt]):p:=h
section
open Go.Proofs
theorem Ib {P:Program}(w:World)(src dst e:TypeId)(s:ByteArray)(hs:P.underlying src=some .string)(hd:P.underlying dst=some (.slice e))(he:P.underlying e=some (.int .u8)):
 ∃W2 cap,(convert src dst (.string s)).run P w= .ok (.slice (some ⟨w.heap.size,0,none⟩) s.size cap) W2/\s.size<=cap/\(∀t,t < s.size->W2.cell? ⟨w.heap.size,t,none⟩=some (.int .u8 (pB (aM s) t)))/\cM w W2:=by
 refine⟨_,_,run_bytes_of_string w src dst e s hs hd he,grownCap_ge _ _ _ _,fun t ht=>?_,?_⟩
 ·have hb:=bytesRow_at s (grownCap w s.size 0 e) t ht;rw[kH s t ht];exact aw (aZ w.drew _) hb
 ·exact((Bel.refl w).drew.alloc _).bel
theorem tb (s:ByteArray)(a n t:Nat)(h:a+n<=s.size)(ht:t < n):pB (aM (s.extract a (a+n))) t=pB (aM s) (a+t):=by
 have cL:(s.extract a (a+n)).size=n:=by rw[YT];omega
 rw[kH _ t aa,kH _ (a+t) aa];congr 2;exact ByteArray.getElem_extract ..
theorem Dh (n b:Int)(h0:0<=n)(h1:n < 16777216)(h2:0<=b)(h3:b<=255):bits .or .u32 (n*256) b=256*n+b:=by
 obtain⟨n,rfl⟩:=ZN h0;obtain⟨b,rfl⟩:=ZN h2;have e:((n:Int)*256)=((n*256:Nat):Int):=ah;rw[e];have hw:∀x:Nat,x < 4294967296->(BitVec.ofInt 32 (x:Int)).toNat=x:=fun x hx=>a5J
 have ho:n*256|||b=n*256+b:=by
  have:=Nat.shiftLeft_add_eq_or_of_lt (b:=b) (i:=8) aa n;rw[Nat.shiftLeft_eq,show (2:Nat) ^ 8=256 from rfl]at this;omega
 show IntKind.u32.wrap ((BitVec.ofInt 32 _|||BitVec.ofInt 32 _).toNat:Int)=_;rw[BitVec.toNat_or,hw _ aa,hw _ aa,ho];have hsg:IntKind.u32.signed=false:=rfl;simp[IntKind.wrap,IntKind.bits,hsg];omega
def pO (x:Int)(f:Nat->Int)(j:Nat):Array Value:=#[.int .i64 x,.int .i64 (if 0 < j then f 0 else 0),.int .i64 (if 1 < j then f 1 else 0),.int .i64 (if 2 < j then f 2 else 0),.int .i64 (if 3 < j then f 3 else 0),.int .i64 (if 4 < j then f 4 else 0),.int .i64 (if 5 < j then f 5 else 0),.int .i64 (if 6 < j then f 6 else 0),.int .i64 (if 7 < j then f 7 else 0),.int .i64 (if 8 < j then f 8 else 0)]
theorem BD (x:Int)(f:Nat->Int)(j:Nat)(h:j < 9):(pO x f j).setIfInBounds (j+1) (.int .i64 (f j))=pO x f (j+1):=by
 match j,h with
 |0,_|1,_|2,_|3,_|4,_|5,_|6,_|7,_|8,_=>simp[pO]
theorem OL (x:Int)(f:Nat->Int)(j i:Nat)(h:i < 10):∃v,(pO x f j)[i]? =some v:=⟨(pO x f j)[i]'(by simp[pO];omega),by simp[pO]⟩
theorem LQ (l:List Int):pO (pB l 0) (dh l) 9=(kL l).cs:=by simp[pO,kL,WCmd.cs]
def LR (l:List Int)(w:World)(j:Nat)(wr:World):Prop:=
 wr.heap[w.heap.size]? =some (.cells lE 27 (0,0))/\wr.heap[w.heap.size+1]? =some (.cells (pO (pB l 0) (dh l) j) 27 (0,0))/\
  wr.heap[w.heap.size+2]? =some (.cells (Df (w.heap.size+1)) 124 (0,0))/\Bel w.heap.size w wr
theorem OM {l:List Int}{w:World}{j:Nat}{wr W2:World}(h:LR l w j wr)(hx:cM wr W2):LR l w j W2:=by
 obtain⟨h0,h1,h2,h3⟩:=h;have hk:∀{b:Nat}{o:Obj},wr.heap[b]? =some o->W2.heap[b]? =some o:=fun {b o} hb=>by
  have hlt:b < wr.heap.size:=by
   rcases XM b wr.heap.size with h|h
   ·exact h
   ·simp[Yo h]at hb
  rw[hx.block b hlt,hb]
 exact⟨hk h0,hk h1,hk h2,h3.call hx⟩
theorem ON (s:ByteArray)(w:World)(hs:s.size=37):
 Calls prog 44 #[.string s] w fun e w'=>e= .returned (.tuple #[.agg (kL (aM s)).cs,.int .i64 0])/\cM w w':=by
 have cL:((s.size:Int) !=37)=false:=by rw[hs];rfl
 have hge:37<=s.size:=aa;have a3j:s.size<=37:=aa;clear hs;have Br:=ln (fT s);have e0:=kH s 0 aa;obtain⟨x0,U8⟩:∃x,x=pB (aM s) 0:=⟨_,rfl⟩;obtain⟨a1,a2⟩:=Br 0;rw[<-U8]at e0 a1 a2;replace e0:=e0.symm;replace U8:=Xj U8;replace Br:=Xj Br;have b8:LR (aM s) w 0 ((((w.alloc (.cells lE 27)).alloc (.cells #[.int .i64 x0,.int .i64 0,.int .i64 0,.int .i64 0,.int .i64 0,.int .i64 0,.int .i64 0,.int .i64 0,.int .i64 0,.int .i64 0] 27)).alloc (.cells (Df (w.heap.size+1)) 124)).drew):=by
  refine⟨ki.trans (bP (bP (aZ _ _))),ki.trans (bP ?_),ki.trans ?_,((((Bel.refl w).alloc _).alloc _).alloc _).drew⟩
  ·have:=aZ (w.alloc (.cells lE 27)) (.cells #[.int .i64 x0,.int .i64 0,.int .i64 0,.int .i64 0,.int .i64 0,.int .i64 0,.int .i64 0,.int .i64 0,.int .i64 0,.int .i64 0] 27);rw[<-U8.out];simpa[pO]using this
  ·have:=aZ ((w.alloc (.cells lE 27)).alloc (.cells #[.int .i64 x0,.int .i64 0,.int .i64 0,.int .i64 0,.int .i64 0,.int .i64 0,.int .i64 0,.int .i64 0,.int .i64 0,.int .i64 0] 27)) (.cells (Df (w.heap.size+1)) 124);simpa using this
 unfold lE Df at b8;replace b8:=Xj b8;go_enter func44,ntmps44
 go_wp2_with fail
 refine(r6 _ _ (.int .i64 0) (by go_simp)).mono ?_;rintro e w1 ⟨rfl,rfl⟩;go_wp2_with fail
 go_loopw [26] (fun i wr=>∃j:Nat,j<=9/\i= .int .i64 j/\LR (aM s) w j wr) (fun i _=>9 - (intOf i).toNat)
 case atStart=>exact⟨0,by omega,rfl,b8.out⟩
 case round=>
  obtain⟨j,hj,rfl,hrel⟩:=hrel;clear b8;by_cases hlt:j < 9
  ·have ed:(j:Int) < 9:=aa;have hp:=aw hrel.2.2.1 (OF (w.heap.size+1) j hlt);have hsx:(s.extract (1+4*j) (5+4*j)).size=4:=by rw[YT];omega
   obtain⟨W2,cap,hk,vU,ck,ru⟩:=Ib (P:=prog) wr 9 74 5 (s.extract (1+4*j) (5+4*j)) underlying9 underlying74 underlying5;rw[hsx]at hk vU ck;have aQ:=OM hrel ru;have Aw:∀t,t < 4->pB (aM (s.extract (1+4*j) (5+4*j))) t=pB (aM s) (4*j+1+t):=fun t ht=>by
    rw[show 5+4*j=(1+4*j)+4 from by omega,tb s (1+4*j) 4 t aa ht,show 1+4*j+t=4*j+1+t from by omega]
   have q1:=ck 0 aa;have q2:=ck 1 aa;have q3:=ck 2 aa;have q4:=ck 3 aa;rw[Aw 0 aa]at q1;rw[Aw 1 aa]at q2;rw[Aw 2 aa]at q3;rw[Aw 3 aa]at q4;obtain⟨f1,f2⟩:=Br.out (4*j+1);obtain⟨b1,b2⟩:=Br.out (4*j+2);obtain⟨c1,c2⟩:=Br.out (4*j+3);obtain⟨d1,d2⟩:=Br.out (4*j+4);obtain⟨x1,nq⟩:∃x,x=pB (aM s) (4*j+1):=⟨_,rfl⟩;obtain⟨x2,j5⟩:∃x,x=pB (aM s) (4*j+2):=⟨_,rfl⟩;obtain⟨x3,EN⟩:∃x,x=pB (aM s) (4*j+3):=⟨_,rfl⟩;obtain⟨x4,SU⟩:∃x,x=pB (aM s) (4*j+4):=⟨_,rfl⟩;have Es:dh (aM s) j=LP (256*(256*(256*(256*0+x1)+x2)+x3)+x4):=by rw[nq,j5,EN,SU];rfl
   rw[show 4*j+1+0=4*j+1 from rfl,<-nq]at q1;rw[show 4*j+1+1=4*j+2 from rfl,<-j5]at q2;rw[show 4*j+1+2=4*j+3 from rfl,<-EN]at q3;rw[show 4*j+1+3=4*j+4 from rfl,<-SU]at q4;rw[<-nq]at f1 f2;rw[<-j5]at b1 b2;rw[<-EN]at c1 c2;rw[<-SU]at d1 d2;clear nq j5 EN SU ck Aw;have hle:=hrel.2.2.2.le;have hex:=ru.size;replace hrel:=Xj hrel;replace aQ:=Xj aQ;replace Es:=Xj Es;replace hsx:=Xj hsx;clear ru vU;go_wp2_with fail
   go_loop [8,41] (fun n k=>(n= .int .u32 0/\k= .int .i64 0)\/(n= .int .u32 x1/\k= .int .i64 1)\/(n= .int .u32 (256*x1+x2)/\k= .int .i64 2)\/(n= .int .u32 (256*(256*x1+x2)+x3)/\k= .int .i64 3)\/(n= .int .u32 (256*(256*(256*x1+x2)+x3)+x4)/\k= .int .i64 4)) (fun _ k=>4 - (intOf k).toNat)
   case atStart=>exact .inl ⟨rfl,rfl⟩
   case round=>
    rcases hrel with⟨rfl,rfl⟩|⟨rfl,rfl⟩|⟨rfl,rfl⟩|⟨rfl,rfl⟩|⟨rfl,rfl⟩
    ·go_wp2_with fail
     exact⟨.inr (.inl ⟨by have h:=Dh 0 x1 aa aa aa aa;simp at h;rw[h],rfl⟩),by simp[intOf]⟩
    ·go_wp2_with fail
     exact⟨.inr (.inr (.inl ⟨by rw[Dh x1 x2 aa aa aa aa],rfl⟩)),by simp[intOf]⟩
    ·go_wp2_with fail
     exact⟨.inr (.inr (.inr (.inl ⟨by rw[Dh _ x3 aa aa aa aa],rfl⟩))),by simp[intOf]⟩
    ·go_wp2_with fail
     exact⟨.inr (.inr (.inr (.inr ⟨by rw[Dh _ x4 aa aa aa aa],rfl⟩))),by simp[intOf]⟩
    ·obtain⟨old,hold⟩:=OL (pB (aM s) 0) (dh (aM s)) j (j+1) aa;have hc:=aw aQ.out.2.1 hold;have hf:=fm (o:=j+1) aQ.out.2.1;clear hold;by_cases Bs:2147483648<=256*(256*(256*x1+x2)+x3)+x4
     ·have HE:=Bs;have hv:dh (aM s) j=256*(256*(256*x1+x2)+x3)+x4 - 4294967296:=by
       rw[Es.out];unfold LP;rw[aj aa];omega
      have rl:wrap32 (256*(256*(256*x1+x2)+x3)+x4)=256*(256*(256*x1+x2)+x3)+x4 - 4294967296:=by unfold wrap32;omega
      replace hv:=Xj hv;go_wp2_with fail
      have R:LR (aM s) w (j+1) (W2.setCell ⟨w.heap.size+1,j+1,none⟩ (.int .i64 (256*(256*(256*x1+x2)+x3)+x4 - 4294967296))):=a4D
      go_roundw
      case rel=>exact⟨j+1,by omega,by go_num,R⟩
      case measure=>simp[intOf];omega
     ·have HE:=Bs;have hv:dh (aM s) j=256*(256*(256*x1+x2)+x3)+x4:=by
       rw[Es.out];unfold LP;rw[af aa];omega
      have rl:wrap32 (256*(256*(256*x1+x2)+x3)+x4)=256*(256*(256*x1+x2)+x3)+x4:=by unfold wrap32;omega
      replace hv:=Xj hv;go_wp2_with fail
      have R:LR (aM s) w (j+1) (W2.setCell ⟨w.heap.size+1,j+1,none⟩ (.int .i64 (256*(256*(256*x1+x2)+x3)+x4))):=a4D
      go_roundw
      case rel=>exact⟨j+1,by omega,by go_num,R⟩
      case measure=>simp[intOf];omega
  ·obtain rfl:j=9:=aa;obtain⟨EL,xS,-,d4⟩:=hrel;rw[LQ]at xS;have hle:=d4.le;have hz:∀k,k < 10->wr.cell? ⟨w.heap.size,k,none⟩=some (.int .i64 0):=fun k hk=>aw EL (by
    match k,hk with
    |0,_|1,_|2,_|3,_|4,_|5,_|6,_|7,_|8,_|9,_=>rfl)
   have hf:∀k,wr.frozen? ⟨w.heap.size,k,none⟩=false:=fun k=>fm EL;obtain⟨c,hc⟩:∃c,c=kL (aM s):=⟨_,rfl⟩;rw[<-hc]at xS;have k0:wr.cell? ⟨w.heap.size+1,0,none⟩=some (.int .i64 c.op):=aw xS rfl;have k1:wr.cell? ⟨w.heap.size+1,1,none⟩=some (.int .i64 c.a):=aw xS rfl;have k2:wr.cell? ⟨w.heap.size+1,2,none⟩=some (.int .i64 c.b):=aw xS rfl;have k3:wr.cell? ⟨w.heap.size+1,3,none⟩=some (.int .i64 c.c):=aw xS rfl;have k4:wr.cell? ⟨w.heap.size+1,4,none⟩=some (.int .i64 c.at_):=aw xS rfl;have k5:wr.cell? ⟨w.heap.size+1,5,none⟩=some (.int .i64 c.len):=aw xS rfl;have k6:wr.cell? ⟨w.heap.size+1,6,none⟩=some (.int .i64 c.min):=aw xS rfl;have k7:wr.cell? ⟨w.heap.size+1,7,none⟩=some (.int .i64 c.max):=aw xS rfl;have k8:wr.cell? ⟨w.heap.size+1,8,none⟩=some (.int .i64 c.usual):=aw xS rfl;have k9:wr.cell? ⟨w.heap.size+1,9,none⟩=some (.int .i64 c.cool):=aw xS rfl;have z0:=hz 0 aa;have z1:=hz 1 aa;have z2:=hz 2 aa;have z3:=hz 3 aa;have z4:=hz 4 aa;have z5:=hz 5 aa;have z6:=hz 6 aa;have z7:=hz 7 aa;have z8:=hz 8 aa;have z9:=hz 9 aa;have HD:w.heap.size < wr.heap.size:=cW z0;replace hz:=Xj hz;replace EL:=Xj EL;replace xS:=Xj xS;replace hc:=Xj hc;clear hlt;go_wp2_with fail
   refine bodyPost_ret (v:= .tuple #[.agg c.cs,.int .i64 0]) ?_ rfl ⟨by rw[hc.out],Bel.bel (B:=_) ?_⟩
   ·unfold WCmd.cs;simp[results,results44,go_sem,z0,z1,z2,z3,z4,z5,z6,z7,z8,z9]
   ·exact dM
end
section
open Go.Proofs
def pP (c:WCmd):ByteArray:=strOfNums (c.op::c.nums.flatMap xF)
def uL (c:WCmd):Value:=if c.ok then .tuple #[.string (pP c),.int .i64 0]else .tuple #[.string ⟨#[]⟩,.int .i64 3]
theorem LU (c:WCmd)(w:World):
 Calls prog 23 #[.agg c.cs] w fun e w'=>e= .returned (uL c)/\cM w w':=by
 by_cases h:0<=c.op/\c.op<=255
 ·have hv:uL c=l8 c:=by
   have:dH c.op 0 255=true:=by simp[dH,h]
   simp[uL,l8,WCmd.ok,this,pP]
  rw[hv];exact OH c w h.1 h.2
 ·have hv:uL c= .tuple #[.string ⟨#[]⟩,.int .i64 3]:=by
   have:dH c.op 0 255=false:=by simp[dH];omega
   simp[uL,WCmd.ok,this]
  rw[hv];clear hv;by_cases h0:c.op < 0
  ·unfold WCmd.cs;clear h;go_enter func23,ntmps23
   go_wp2_with fail
   go_ret2
   exact⟨rfl,((Bel.refl w).alloc _).bel⟩
  ·have h1:255 < c.op:=aa;unfold WCmd.cs;clear h;go_enter func23,ntmps23
   go_wp2_with fail
   go_ret2
   exact⟨rfl,((Bel.refl w).alloc _).bel⟩
theorem qK (c:WCmd):(pP c).size=37:=by
 unfold pP;rw[strOfNums_size];simp[WCmd.nums,xF]
def oK (c:WCmd):ByteArray:=gH (pP c)
theorem pQ (c:WCmd):(oK c).size=42:=by
 unfold oK gH;rw[strOfNums_size];simp[qJ,fp,qK,Oo]
def nM (l:List WCmd):List UInt8:=l.flatMap fun c=>(oK c).data.toList
def l9 (l:List WCmd):ByteArray:=⟨(nM l).toArray⟩
theorem xc (l:List WCmd):(nM l).length=42*l.length:=by
 induction l with
 |nil=>rfl
 |cons c l ih=>
  have:(oK c).data.toList.length=42:=by rw[ZR];exact pQ c
  simp only[nM,Zy,Xv,Xx,this]at ih ⊢;omega
def WCmd.R (cs:List Value)(c:WCmd):Prop:=cs=c.cs.toList
end
section
open Go.Proofs
theorem nN (l:List WCmd):(l9 l).size=42*l.length:=by
 have:=xc l;show (nM l).toArray.size=_;simpa using this
theorem Di {c:WCmd}(h:c.ok=true):0<=c.op/\c.op<=255/\∀n∈c.nums,l7 n=true:=by
 unfold WCmd.ok at h;rw[Xt]at h;obtain⟨h1,h2⟩:=h;unfold dH at h1;rw[Xt]at h1;exact⟨by simpa using h1.1,by simpa using h1.2,XA.1 h2⟩
end
section
open Go.Proofs
def OO:WCmd:=⟨0,0,0,0,0,0,0,0,0,0⟩
def yb (s:ByteArray):WCmd:=if s.size=37 then kL (aM s)else OO
def BE (s:ByteArray):Value:= .tuple #[.agg (yb s).cs,.int .i64 (if s.size=37 then 0 else 1)]
theorem EW (s:ByteArray)(w:World):
 Calls prog 44 #[.string s] w fun e w'=>e= .returned (BE s)/\cM w w':=by
 by_cases h:s.size=37
 ·have:=ON s w h;simpa[BE,yb,h]using this
 ·have hv:BE s= .tuple #[.agg OO.cs,.int .i64 1]:=by simp[BE,yb,h]
  rw[hv];have cL:((s.size:Int) !=37)=true:=aK;clear hv h;unfold OO WCmd.cs;go_enter func44,ntmps44
  go_wp2_with fail
  refine(r6 _ _ (.int .i64 0) (by go_simp)).mono ?_;rintro e w1 ⟨rfl,rfl⟩;go_wp2_with fail
  refine bodyPost_ret (v:= .tuple #[.agg #[.int .i64 0,.int .i64 0,.int .i64 0,.int .i64 0,.int .i64 0,.int .i64 0,.int .i64 0,.int .i64 0,.int .i64 0,.int .i64 0],.int .i64 1]) ?_ rfl ⟨rfl,Bel.bel (B:=_) ?_⟩
  ·simp[results,results44,go_sem,World.cell?_alloc_some,World.cell?_setCell_same]
  ·exact dM
end
section
open Go.Proofs
theorem yc {α:Type}{f:α->List Value}{k:Nat}:∀(l:List α),(∀x∈l,(f x).length=k)->∀i (h:i < l.length) j,j < k->(l.flatMap f)[i*k+j]? =(f l[i])[j]?
 |[],_,i,h,_,_=>absurd h ah
 |x::l,hf,i,h,j,hj=>by
  have hx:=hf x ah;rw[Zy];match i with
  |0=>rw[X5 aa];simp
  |i+1=>
   have e:(i+1)*k+j - k=i*k+j:=by rw[YP];omega
   rw[XH (by rw[hx,YP];omega),hx,e,yc l (fun y hy=>hf y (by simp[hy])) i (by simpa using h) j hj];simp
theorem Ic {α:Type}{A:nC}{w:World}{base k:Nat}{e:TypeId}{v:Value}{l:List α}{f:α->List Value}{n:Nat}(h:w.ownsRow base e k v n (l.flatMap f))(hn:n=l.length)(hf:∀x∈l,(f x).length=k)
 (hA:∀b,base<=b->A b):∃ao cap,v= .slice ao n cap/\Sl A w k (fun cs x=>cs=f x) ao cap l:=by
 subst hn;rcases h.2 with⟨hv,h0⟩|⟨g,cap,cur,hv,hg,hb,hc,hm,cL,ht⟩
 ·refine⟨none,0,by rw[hv,h0],⟨by omega,by decide,fun i hi=>absurd hi aa⟩⟩
 ·subst hv;refine⟨_,cap,rfl,⟨hc,hm,fun i hi=>⟨g,0,f l[i],rfl,hA g hg,hf _ (Ye hi),rfl,fun j hj=>?_⟩⟩⟩;have hj':j < k:=by rw[hf _ (Ye hi)]at hj;exact hj
  have hlt:i*k+j < l.length*k:=by
   have:(i+1)*k<=l.length*k:=Yt k hi;rw[YP]at this;omega
  rw[show 0+i*k+j=i*k+j from by omega,h.cellAt _ hlt,yc l hf i hi j hj',Xk hj]
end
section
open Go.Proofs
theorem Tc (b1 b2 b3 b4:Int)(h1:0<=b1/\b1<=255)(h2:0<=b2/\b2<=255)(h3:0<=b3/\b3<=255)(h4:0<=b4/\b4<=255):
 xF (LP (256*(256*(256*(256*0+b1)+b2)+b3)+b4))=[b1,b2,b3,b4]:=by
 have key:∀n:Int,n=256*(256*(256*(256*0+b1)+b2)+b3)+b4\/n=256*(256*(256*(256*0+b1)+b2)+b3)+b4 - 4294967296->xF n=[b1,b2,b3,b4]:=by
  intro n hn;unfold xF;rw[show n / 16777216 % 256=b1 from by omega,show n / 65536 % 256=b2 from by omega,show n / 256 % 256=b3 from by omega,show n % 256=b4 from by omega]
 unfold LP;split
 ·exact key _ (.inr rfl)
 ·exact key _ (.inl rfl)
theorem Wb (b1 b2 b3 b4:Int)(h1:0<=b1/\b1<=255)(h2:0<=b2/\b2<=255)(h3:0<=b3/\b3<=255)(h4:0<=b4/\b4<=255):
 l7 (LP (256*(256*(256*(256*0+b1)+b2)+b3)+b4))=true:=by
 unfold l7 LP;split<;>(simp;omega)
theorem LV {l:List Int}(h:∀n∈l,ll n)(j:Nat):xF (dh l j)=[pB l (4*j+1),pB l (4*j+2),pB l (4*j+3),pB l (4*j+4)]:=
 Tc _ _ _ _ (ln h _) (ln h _) (ln h _) (ln h _)
theorem OP {l:List Int}(h:∀n∈l,ll n)(j:Nat):l7 (dh l j)=true:=
 Wb _ _ _ _ (ln h _) (ln h _) (ln h _) (ln h _)
theorem EY (l:List Int)(h:∀n∈l,ll n)(hl:l.length=37):(kL l).op::(kL l).nums.flatMap xF=l:=by
 have e:l=(X8 37).map (pB l):=by
  apply List.ext_getElem
  ·simp[hl]
  ·intro i h1 h2;simp[pB,XC,Xk h1]
 conv=>rhs;rw[e]
 simp only[kL,WCmd.nums,Zy,ZE,LV h];rfl
theorem OQ (l:List Int)(h:∀n∈l,ll n):∀n∈(kL l).nums,l7 n=true:=by
 intro n hn;simp only[kL,WCmd.nums,X2,List.not_mem_nil,or_false]at hn;rcases hn with rfl|rfl|rfl|rfl|rfl|rfl|rfl|rfl|rfl<;>exact OP h _
theorem Ie (t:ByteArray)(ht:t.size=37):pP (kL (aM t))=t:=by
 unfold pP;rw[EY _ (fT t) (by rw[fp];exact ht),x7]
def EZ (s:ByteArray)(i:Nat):Prop:=i+42<=s.size/\gH (s.extract (i+1) (i+38))=s.extract i (i+42)
theorem E0 (t:ByteArray)(h:t.size<=255):pB (aM (gH t)) 0=t.size:=by
 unfold gH;rw[r7]
 ·rfl
 ·intro n hn;rcases X0.1 hn with hn|hn
  ·exact x9 t h n hn
  ·simp[Oo]at hn;rcases hn with rfl|rfl|rfl|rfl<;>exact⟨by omega,by omega⟩
theorem BF {s:ByteArray}{i:Nat}(h:EZ s i):pB (aM s) i=37:=by
 have h1:=tb s i 42 0 h.1 aa;rw[<-h.2,E0 _ (by rw[YT];omega),YT,Nat.min_eq_left (by have:=h.1;omega)]at h1;rw[show i+0=i from rfl]at h1;rw[<-h1];omega
structure Replayed (s:ByteArray)(n:Nat):Prop where
 le:n<=200
 all:∀k,k < n->EZ s (42*k)
 stop:n=200\/¬EZ s (42*n)
theorem Replayed.unique {s:ByteArray}{n m:Nat}(h:Replayed s n)(k:Replayed s m):n=m:=by
 rcases Y7 n m with hlt|heq|hlt
 ·rcases h.stop with h1|h1
  ·have:=k.le;omega
  ·exact absurd (k.all n hlt) h1
 ·exact heq
 ·rcases k.stop with h1|h1
  ·have:=h.le;omega
  ·exact absurd (h.all m hlt) h1
def LW (s:ByteArray)(k:Nat):WCmd:=kL (aM (s.extract (42*k+1) (42*k+38)))
def ma (s:ByteArray)(n:Nat):List WCmd:=(X8 n).map (LW s)
theorem fq (s:ByteArray)(n:Nat):(ma s n).length=n:=by simp[ma]
theorem wm (s:ByteArray)(n:Nat):ma s (n+1)=ma s n++[LW s n]:=by simp[ma,_f]
end
theorem a4a {p:Prop}(h:p:=by
 refine⟨?_,by omega,by omega,?_,(kg.alloc _).grownOwn (gR.alloc _) fE aa⟩
 ·rw[wm,YN,<-bp.out];simpa using cV
 ·intro k hk;rcases XM k n with h|h
  ·exact bo.out k h
  ·obtain rfl:k=n:=aa;exact qC.out):p:=h
section
open Go.Proofs
theorem If {a b:ByteArray}:a.toList=b.toList↔a=b:=by
 refine⟨fun h=>?_,fun h=>by rw[h]⟩;rw[_a,_a]at h;exact ZV (D' h)
theorem BG {a b:ByteArray}(h:¬a=b):(a.toList==b.toList)=false:=by
 rw[beq_eq_false_iff_ne];exact fun hx=>h (If.1 hx)
theorem ur:(prog.info? 27).map (fun i=>(i.zero,i.size,i.bytes))=some (some (.agg #[.int .i64 0,.int .i64 0,.int .i64 0,.int .i64 0,.int .i64 0,.int .i64 0,.int .i64 0,.int .i64 0,.int .i64 0,.int .i64 0]),10,80):=aJ
def Ig (s:ByteArray)(w:World)(n:Nat)(v:Value)(wr:World):Prop:=
 wr.ownsRow w.heap.size 27 10 v n ((ma s n).flatMap fun c=>c.cs.toList)/\n<=200/\42*n<=s.size/\(∀k,k < n->EZ s (42*k))/\Bel w.heap.size w wr
def uM (s:ByteArray)(w:World)(e:Ending)(w':World):Prop:=
 ∃n ao cap,Replayed s n/\e= .returned (.tuple #[.slice ao n cap,.int .i64 (42*(n:Int)),.int .i64 0])/\Sl (fun b=>w.heap.size<=b) w' 10 WCmd.R ao cap (ma s n)/\cM w w'
theorem kM {s:ByteArray}{w wr:World}{n:Nat}{v:Value}(h:Ig s w n v wr)(hs:n=200\/¬EZ s (42*n)):uM s w (.returned (.tuple #[v,.int .i64 (42*(n:Int)),.int .i64 0])) wr:=by
 obtain⟨h1,h2,h3,h4,h5⟩:=h;obtain⟨ao,cap,hv,rV⟩:=Ic (A:=fun b=>w.heap.size<=b) h1 (fq s n).symm (fun _ _=>rfl) (fun _ hb=>hb);exact⟨n,ao,cap,⟨h2,h4,hs⟩,by rw[hv],rV,h5.bel⟩
theorem Ih (s:ByteArray)(w:World)(hs:s.size<=16384):
 Calls prog 18 #[.string s] w (uM s w):=by
 obtain⟨i0,hi,vT,mW,rT⟩:=info_parts ur;have b8:Ig s w 0 (.slice none 0 0) w:=⟨I' _ _ _ _,by omega,by omega,by omega,Bel.refl w⟩;replace b8:=Xj b8;have Br:=ln (fT s);replace Br:=Xj Br;have hsI:decide ((s.size:Int)>16384)=false:=aK;go_enter func18,ntmps18
 go_wp2_with fail
 go_step3
 go_wp2_with fail
 go_step3
 go_wp2_with fail
 go_loopw [5,6] (fun v i wr=>∃n:Nat,i= .int .i64 (42*(n:Int))/\Ig s w n v wr) (fun _ i _=>s.size - (intOf i).toNat)
 case atStart=>exact⟨0,rfl,b8.out⟩
 case round=>
  obtain⟨n,rfl,hrel⟩:=hrel;clear b8;by_cases hlt:42*n < s.size
  ·have ed:42*(n:Int) < s.size:=aa;obtain⟨bj,hn,C4,bo,d4⟩:=hrel;have hle:=d4.le;obtain⟨g,cap,hv⟩:∃ao cap,u5= .slice ao n cap:=by
    obtain⟨ao,cap,hv,-⟩:=Ic (A:=fun b=>w.heap.size<=b) bj (fq s n).symm (fun _ _=>rfl) (fun _ hb=>hb);exact⟨ao,cap,hv⟩
   subst hv;by_cases vV:n < 200
   ·have RY:(n:Int) < 200:=aa;have e0:=kH s (42*n) hlt;obtain⟨x,hx⟩:∃x,x=pB (aM s) (42*n):=⟨_,rfl⟩;obtain⟨a1,a2⟩:=Br.out (42*n);rw[<-hx]at e0 a1 a2;replace e0:=e0.symm;replace hx:=Xj hx;replace bj:=Xj bj;replace bo:=Xj bo;by_cases Et:42*n+x+5<=s.size
    ·obtain⟨m,rfl⟩:∃m:Nat,x=m:=⟨x.toNat,by omega⟩;obtain⟨t,ht⟩:∃t,t=s.extract (42*n+1) (42*n+1+m):=⟨_,rfl⟩;have SV:t.size=m:=by rw[ht,YT];omega
     obtain⟨c,hc⟩:∃c,c=yb t:=⟨_,rfl⟩;by_cases h37:m=37
     ·subst h37;have HF:=EW t wr;simp only[BE,SV,<-hc,if_true,WCmd.cs]at HF;rw[ht]at HF;have bp:c=LW s n:=by rw[hc,yb,aj SV,ht];rfl
      obtain⟨z,hz⟩:∃z,z=gH t:=⟨_,rfl⟩;have sU:=fun W=>uK t W aa;rw[<-hz,ht]at sU;replace ht:=Xj ht;replace hc:=Xj hc;replace hz:=Xj hz;replace SV:=Xj SV;replace bp:=Xj bp;replace sU:=Xj sU;go_wp2_with fail
      refine HF.mono ?_;rintro e w1 ⟨rfl,ci⟩;clear HF;go_wp2_with fail
      refine(sU.out _).mono ?_;rintro e w2 ⟨rfl,cj⟩;by_cases hq:z=s.extract (42*n) (42*n+42)
      ·have qC:EZ s (42*n):=⟨by omega,by rw[<-hq,hz.out,ht.out]⟩;replace qC:=Xj qC;have j5:cM wr w2:=al (al ci (az _ _)) cj;have gR:=kK j5 bj.out;have kg:=d4.call j5;have q0:w2.cell? ⟨w1.heap.size,0,none⟩=some (.int .i64 c.op):=aU cj (aw (aZ _ _) rfl);have q1:w2.cell? ⟨w1.heap.size,1,none⟩=some (.int .i64 c.a):=aU cj (aw (aZ _ _) rfl);have q2:w2.cell? ⟨w1.heap.size,2,none⟩=some (.int .i64 c.b):=aU cj (aw (aZ _ _) rfl);have q3:w2.cell? ⟨w1.heap.size,3,none⟩=some (.int .i64 c.c):=aU cj (aw (aZ _ _) rfl);have q4:w2.cell? ⟨w1.heap.size,4,none⟩=some (.int .i64 c.at_):=aU cj (aw (aZ _ _) rfl);have q5:w2.cell? ⟨w1.heap.size,5,none⟩=some (.int .i64 c.len):=aU cj (aw (aZ _ _) rfl);have q6:w2.cell? ⟨w1.heap.size,6,none⟩=some (.int .i64 c.min):=aU cj (aw (aZ _ _) rfl);have q7:w2.cell? ⟨w1.heap.size,7,none⟩=some (.int .i64 c.max):=aU cj (aw (aZ _ _) rfl);have q8:w2.cell? ⟨w1.heap.size,8,none⟩=some (.int .i64 c.usual):=aU cj (aw (aZ _ _) rfl);have q9:w2.cell? ⟨w1.heap.size,9,none⟩=some (.int .i64 c.cool):=aU cj (aw (aZ _ _) rfl);have hle2:=kg.le;clear ci cj d4 j5;go_wp2_with (at_builtin;refine wpList_append_own _ rfl _ _ 40 rfl w.heap.size 27 i0 (.agg #[.int .i64 0,.int .i64 0,.int .i64 0,.int .i64 0,.int .i64 0,.int .i64 0,.int .i64 0,.int .i64 0,.int .i64 0,.int .i64 0]) 10 80 underlying40 hi vT mW rT rfl mR _ _ _ rfl (gR.alloc _) ⟨w2.heap.size,0,none⟩ 1 1 c.cs.toList rfl rfl ?c1 ?c2 uG aa aK ?_;rotate_right;intro v' w3 cV fE _)
       case c1=>
        intro u x hu;simp only[WCmd.cs]at hu;match u,hu with
        |0,hu|1,hu|2,hu|3,hu|4,hu|5,hu|6,hu|7,hu|8,hu|9,hu=>exact a6g
       case c2=>intro u hu;simp[WCmd.cs]at hu;rcases hu with rfl|rfl|rfl|rfl|rfl|rfl|rfl|rfl|rfl|rfl<;>rfl
       have R:Ig s w (n+1) v' w3:=a4a
       clear cV fE gR kg bj;replace R:=Xj R;go_wp2_with fail
       go_roundw
       case rel=>exact⟨n+1,by go_num,R.out⟩
       case measure=>simp[intOf];omega
      ·have cp:=kM (v:= .slice g n cap) ⟨kK (al (al ci (az _ _)) cj) bj.out,hn,C4,bo.out,d4.call (al (al ci (az _ _)) cj)⟩ (.inr (fun hf=>hq (by rw[hz.out,ht.out];exact hf.2)));have qD:(z.toList==(s.extract (42*n) (42*n+1+37+4)).toList)=false:=BG hq;replace cp:=Xj cp;clear bj hq;go_wp2_with fail
       refine bodyPost_ret ?_ rfl cp.out;simp[results,results18,go_sem]
     ·have HF:=EW t wr;simp only[BE,SV,<-hc,af h37,WCmd.cs]at HF;rw[ht]at HF;have sU:=fun W=>uK t W aa;rw[ht]at sU;have cp:∀W,cM wr W->uM s w (.returned (.tuple #[.slice g n cap,.int .i64 (42*(n:Int)),.int .i64 0])) W:=fun W hW=>kM ⟨kK hW bj.out,hn,C4,bo.out,d4.call hW⟩ (.inr (fun hf=>by have:=BF hf;have:=hx.out;omega));replace cp:=Xj cp;replace ht:=Xj ht;replace hc:=Xj hc;replace sU:=Xj sU;go_wp2_with fail
      refine HF.mono ?_;rintro e w1 ⟨rfl,ci⟩;clear HF;go_wp2_with fail
      refine(sU.out _).mono ?_;rintro e w2 ⟨rfl,cj⟩;have ut:=cp.out w2 (al (al ci (az _ _)) cj);replace cp:=Xj ut;clear ut;go_wp2_with fail
      refine bodyPost_ret ?_ rfl cp.out;simp[results,results18,go_sem]
    ·have cp:=kM ⟨bj.out,hn,C4,bo.out,d4⟩ (.inr (fun hf=>by have:=BF hf;have:=hf.1;have:=hx.out;omega));replace cp:=Xj cp;go_wp2_with fail
     refine bodyPost_ret ?_ rfl cp.out;simp[results,results18,go_sem]
   ·have cp:=kM ⟨bj,hn,C4,bo,d4⟩ (.inl aa);have RY:¬(n:Int) < 200:=aa;replace cp:=Xj cp;clear bj bo;go_wp2_with fail
    refine bodyPost_ret ?_ rfl cp.out;simp[results,results18,go_sem]
  ·have ed:¬(((42*(n:Int)):Int) < s.size):=aa;have cp:=kM hrel (.inr (fun hf=>by have:=hf.1;omega));clear hrel;replace cp:=Xj cp;go_wp2_with fail
   refine bodyPost_ret ?_ rfl cp.out;simp[results,results18,go_sem]
end
section
open Go.Proofs
theorem Dj (s:ByteArray)(w:World)(hs:s.size<=16384):
 Calls prog 7 #[.string s] w (uM s w):=by
 obtain⟨i0,hi,vT,mW,rT⟩:=info_parts ur;have b8:Ig s w 0 (.slice none 0 0) w:=⟨I' _ _ _ _,by omega,by omega,by omega,Bel.refl w⟩;replace b8:=Xj b8;have hsI:decide ((s.size:Int)>16384)=false:=aK;go_enter func7,ntmps7
 go_wp2_with fail
 go_loopw [5,6] (fun v i wr=>∃n:Nat,i= .int .i64 (42*(n:Int))/\Ig s w n v wr) (fun _ i _=>s.size - (intOf i).toNat)
 case atStart=>exact⟨0,rfl,b8.out⟩
 case round=>
  obtain⟨n,rfl,hrel⟩:=hrel;clear b8;obtain⟨bj,hn,C4,bo,d4⟩:=hrel;have hle:=d4.le;obtain⟨g,cap,hv⟩:∃ao cap,u5= .slice ao n cap:=by
   obtain⟨ao,cap,hv,-⟩:=Ic (A:=fun b=>w.heap.size<=b) bj (fq s n).symm (fun _ _=>rfl) (fun _ hb=>hb);exact⟨ao,cap,hv⟩
  subst hv;by_cases hlt:42*n+42<=s.size
  ·have ed:42*(n:Int)+42<=s.size:=aa;by_cases vV:n < 200
   ·have RY:(n:Int) < 200:=aa;obtain⟨t,ht⟩:∃t,t=s.extract (42*n+1) (42*n+38):=⟨_,rfl⟩;have SV:t.size=37:=by rw[ht,YT];omega
    obtain⟨c,hc⟩:∃c,c=kL (aM t):=⟨_,rfl⟩;have HF:=EV t wr SV;simp only[<-hc,WCmd.cs]at HF;rw[ht]at HF;have bp:c=LW s n:=by rw[hc,ht];rfl
    obtain⟨z,hz⟩:∃z,z=gH t:=⟨_,rfl⟩;have eV:strOfNums (c.op::c.nums.flatMap xF)=t:=by rw[hc];exact Ie t SV
    have RZ:=ln (fT t) 0;have hcb:=fun W=>ta c W (by rw[hc];exact RZ.1) (by rw[hc];exact RZ.2) (by rw[hc];exact OQ _ (fT t));simp only[eV,WCmd.cs]at hcb;have sU:=fun W=>wl t W aa;rw[<-hz]at sU;replace ht:=Xj ht;replace hc:=Xj hc;replace eV:=Xj eV;replace hz:=Xj hz;replace SV:=Xj SV;replace bp:=Xj bp;replace sU:=Xj sU;replace hcb:=Xj hcb;replace bj:=Xj bj;replace bo:=Xj bo;clear RZ;go_wp2_with fail
    refine HF.mono ?_;rintro e w1 ⟨rfl,ci⟩;clear HF;obtain⟨b0,Ax⟩:∃b0,b0=w1.heap.size:=⟨_,rfl⟩;have db:IntKind.i64.wrap (42*(n:Int)+42)=42*(n:Int)+42:=IntWalk.i64_in _ aa;have pp1:(0:Int)<=42*(n:Int)+42:=aa;have pp2:(0:Int)<=42*(n:Int):=aa;have pp3:42*(n:Int)<=42*(n:Int)+42:=aa;have pp4:(42*(n:Int)).toNat=42*n:=aa;have pp5:(42*(n:Int)+42).toNat=42*n+42:=aa;by_cases hq:z=s.extract (42*n) (42*n+42)
    ·have qC:EZ s (42*n):=⟨by omega,by rw[<-hq,hz.out,ht.out]⟩;replace qC:=Xj qC;go_wp2_with fail
     refine r5 aJ aJ ?_;repeat(first|((first|refine H7 rfl rfl rfl cG ?_|refine H8 rfl rfl rfl cG ?_|refine H9 rfl rfl rfl cG ?_);simp only[Act.put,XO,XQ,XZ])|(apply rY;(first|exact dG rfl|exact ei rfl rfl rfl cG);intro wq iP R hR;(have mX:=(aV iP).1;(try simp only[Xs,ae,Xw,Xu]at mX);go_simp;first|exact hR|(first|(go_at_call 21;exact xX iP (hcb.out _) hR)|(go_at_call 20;exact xX iP (sU.out _) hR)));simp only[Act.put,XO,XQ,XZ]))
     refine wpQuiet_nil ?_;intro w2 cj;obtain⟨dB,dr⟩:=aV cj;have dC:=bv cj;(try simp only[Xs,ae,Xw,Xu]at dB dr dC)
     have j5:cM wr w2:=al (al ci (az _ _)) cj;have gR:=kK j5 bj.out;have kg:=d4.call j5;have q0:w2.cell? ⟨w1.heap.size,0,none⟩=some (.int .i64 c.op):=aU cj (aw (aZ _ _) rfl);have q1:w2.cell? ⟨w1.heap.size,1,none⟩=some (.int .i64 c.a):=aU cj (aw (aZ _ _) rfl);have q2:w2.cell? ⟨w1.heap.size,2,none⟩=some (.int .i64 c.b):=aU cj (aw (aZ _ _) rfl);have q3:w2.cell? ⟨w1.heap.size,3,none⟩=some (.int .i64 c.c):=aU cj (aw (aZ _ _) rfl);have q4:w2.cell? ⟨w1.heap.size,4,none⟩=some (.int .i64 c.at_):=aU cj (aw (aZ _ _) rfl);have q5:w2.cell? ⟨w1.heap.size,5,none⟩=some (.int .i64 c.len):=aU cj (aw (aZ _ _) rfl);have q6:w2.cell? ⟨w1.heap.size,6,none⟩=some (.int .i64 c.min):=aU cj (aw (aZ _ _) rfl);have q7:w2.cell? ⟨w1.heap.size,7,none⟩=some (.int .i64 c.max):=aU cj (aw (aZ _ _) rfl);have q8:w2.cell? ⟨w1.heap.size,8,none⟩=some (.int .i64 c.usual):=aU cj (aw (aZ _ _) rfl);have q9:w2.cell? ⟨w1.heap.size,9,none⟩=some (.int .i64 c.cool):=aU cj (aw (aZ _ _) rfl);have hle2:=kg.le;clear ci cj d4 j5 dB dr dC;go_wp2_with (at_builtin;refine wpList_append_own _ rfl _ _ 40 rfl w.heap.size 27 i0 (.agg #[.int .i64 0,.int .i64 0,.int .i64 0,.int .i64 0,.int .i64 0,.int .i64 0,.int .i64 0,.int .i64 0,.int .i64 0,.int .i64 0]) 10 80 underlying40 hi vT mW rT rfl mR _ _ _ rfl (gR.alloc _) ⟨w2.heap.size,0,none⟩ 1 1 c.cs.toList rfl rfl ?c1 ?c2 uG aa aK ?_;rotate_right;intro v' w3 cV fE _)
     case c1=>
      intro u x hu;simp only[WCmd.cs]at hu;match u,hu with
      |0,hu|1,hu|2,hu|3,hu|4,hu|5,hu|6,hu|7,hu|8,hu|9,hu=>exact a6g
     case c2=>intro u hu;simp[WCmd.cs]at hu;rcases hu with rfl|rfl|rfl|rfl|rfl|rfl|rfl|rfl|rfl|rfl<;>rfl
     have R:Ig s w (n+1) v' w3:=a4a
     clear cV fE gR kg bj;replace R:=Xj R;go_wp2_with fail
     go_roundw
     case rel=>exact⟨n+1,by go_num,R.out⟩
     case measure=>simp[intOf];omega
    ·have qD:(z.toList==(s.extract (42*n) (42*n+42)).toList)=false:=BG hq;have cp:∀W,cM wr W->uM s w (.returned (.tuple #[.slice g n cap,.int .i64 (42*(n:Int)),.int .i64 0])) W:=fun W hW=>kM (v:= .slice g n cap) ⟨kK hW bj.out,hn,C4,bo.out,d4.call hW⟩ (.inr (fun hf=>hq (by rw[hz.out,ht.out];exact hf.2)));replace cp:=Xj cp;clear hq;go_wp2_with fail
     refine r5 aJ aJ ?_;repeat(first|((first|refine H7 rfl rfl rfl cG ?_|refine H8 rfl rfl rfl cG ?_|refine H9 rfl rfl rfl cG ?_);simp only[Act.put,XO,XQ,XZ])|(apply rY;(first|exact dG rfl|exact ei rfl rfl rfl cG);intro wq iP R hR;(have mX:=(aV iP).1;(try simp only[Xs,ae,Xw,Xu]at mX);go_simp;first|exact hR|(first|(go_at_call 21;exact xX iP (hcb.out _) hR)|(go_at_call 20;exact xX iP (sU.out _) hR)));simp only[Act.put,XO,XQ,XZ]))
     refine wpQuiet_nil ?_;intro w2 cj;obtain⟨dB,dr⟩:=aV cj;have dC:=bv cj;(try simp only[Xs,ae,Xw,Xu]at dB dr dC)
     have ut:=cp.out w2 (al (al ci (az _ _)) cj);replace cp:=Xj ut;clear ut;go_wp2_with fail
     refine bodyPost_ret ?_ rfl cp.out;simp[results,results7,go_sem]
   ·have cp:=kM ⟨bj,hn,C4,bo,d4⟩ (.inl aa);have RY:¬(n:Int) < 200:=aa;replace cp:=Xj cp;clear bj bo;go_wp2_with fail
    refine bodyPost_ret ?_ rfl cp.out;simp[results,results7,go_sem]
  ·have ed:¬(42*(n:Int)+42<=s.size):=aa;have cp:=kM ⟨bj,hn,C4,bo,d4⟩ (.inr (fun hf=>by have:=hf.1;omega));clear bj bo;replace cp:=Xj cp;go_wp2_with fail
   refine bodyPost_ret ?_ rfl cp.out;simp[results,results7,go_sem]
end
section
open Go.Proofs
def Ii (s:ByteArray)(w:World)(e:Ending)(w':World):Prop:=
 (s.size<=16384/\uM s w e w')\/(16384 < s.size/\e= .returned (.tuple #[.slice none 0 0,.int .i64 0,.int .i64 2])/\w'=w)
theorem Ij (s:ByteArray)(w:World):
 Calls prog 18 #[.string s] w (Ii s w):=by
 by_cases h:s.size<=16384
 ·exact(Ih s w h).mono fun e w' he=> .inl ⟨h,he⟩
 ·have hg:16384 < s.size:=aa;have hsI:decide ((s.size:Int)>16384)=true:=aK;clear h;go_enter func18,ntmps18
  go_wp2_with fail
  go_step3
  go_wp2_with fail
  refine bodyPost_ret (v:= .tuple #[.slice none 0 0,.int .i64 0,.int .i64 2]) ?_ rfl (.inr ⟨hg,rfl,rfl⟩);simp[results,results18,go_sem]
theorem Dk (s:ByteArray)(w:World):
 Calls prog 7 #[.string s] w (Ii s w):=by
 by_cases h:s.size<=16384
 ·exact(Dj s w h).mono fun e w' he=> .inl ⟨h,he⟩
 ·have hg:16384 < s.size:=aa;have hsI:decide ((s.size:Int)>16384)=true:=aK;clear h;go_enter func7,ntmps7
  go_wp2_with fail
  refine bodyPost_ret (v:= .tuple #[.slice none 0 0,.int .i64 0,.int .i64 2]) ?_ rfl (.inr ⟨hg,rfl,rfl⟩);simp[results,results7,go_sem]
end
inductive D where
 |v (x:Value)
 |sl (sz:Nat) (rows:List (List D))
 |ept (cells:List D)
 |agg (cells:List D)
 |tup (vs:List D)
 |clo (g:Nat) (caps:List D)
 |nei
def D.one:D->Bool
 | .v x=>x.oneCell'
 | .agg _=>false
 | .tup _=>false
 |_=>true
inductive RepD (M:Nat->Prop) (w:World):D->Value->Prop
 |v (x:Value):RepD M w (.v x) x
 |nil (sz:Nat) (ao:Option Addr) (cap:Nat) (hm:cap<=9223372036854775807):RepD M w (.sl sz []) (.slice ao 0 cap)
 |sl (sz:Nat) (rows:List (List D)) (b off cap:Nat) (f:Nat->Nat->Value) (hM:¬M b) (hb:b < w.heap.size) (hc:rows.length<=cap) (hm:cap<=9223372036854775807)
  (hr:∀r∈rows,r.length=sz) (h1:∀r∈rows,∀d∈r,d.one=true)
  (ck:∀i j,i < rows.length->j < sz->w.cell? ⟨b,off+i*sz+j,none⟩=some (f i j))
  (bC:∀(i j:Nat) (row:List D) (d:D),rows[i]? =some row->row[j]? =some d->RepD M w d (f i j)):RepD M w (.sl sz rows) (.slice (some ⟨b,off,none⟩) rows.length cap)
 |ept (cells:List D) (b off:Nat) (f:Nat->Value) (hM:¬M b) (hb:b < w.heap.size) (h1:∀d∈cells,d.one=true)
  (ck:∀j,j < cells.length->w.cell? ⟨b,off+j,none⟩=some (f j))
  (bC:∀(j:Nat) (d:D),cells[j]? =some d->RepD M w d (f j)):RepD M w (.ept cells) (.pointer (some ⟨b,off,none⟩))
 |agg (cells:List D) (vs:List Value) (hl:cells.length=vs.length) (h1:∀d∈cells,d.one=true)
  (bC:∀(j:Nat) (d:D) (x:Value),cells[j]? =some d->vs[j]? =some x->RepD M w d x):RepD M w (.agg cells) (.agg vs.toArray)
 |tup (ds:List D) (vs:List Value) (hl:ds.length=vs.length)
  (bC:∀(j:Nat) (d:D) (x:Value),ds[j]? =some d->vs[j]? =some x->RepD M w d x):RepD M w (.tup ds) (.tuple vs.toArray)
 |clo (g:Nat) (caps:List D) (vs:List Value) (hl:caps.length=vs.length)
  (bC:∀(j:Nat) (d:D) (x:Value),caps[j]? =some d->vs[j]? =some x->RepD M w d x):RepD M w (.clo g caps) (.func (.func g) #[] vs.toArray)
 |nei (t:TypeId) (x:Value):RepD M w .nei (.iface t x)
structure Keep (M:Nat->Prop)(w:World)(M':Nat->Prop)(w':World):Prop where
 size:w.heap.size<=w'.heap.size
 block:∀b,b < w.heap.size->¬M b->w'.heap[b]? =w.heap[b]?
 mu:∀b,b < w.heap.size->M' b->M b
theorem Keep.refl (M:Nat->Prop)(w:World):Keep M w M w:=⟨Xz _,fun _ _ _=>rfl,fun _ _ h=>h⟩
theorem Keep.ext {M:Nat->Prop}{w w':World}(h:cM w w')(hM:∀b,M b->b < w.heap.size):Keep M w M w':=⟨h.size,fun b hb _=>h.block b hb,fun _ _ h=>h⟩
theorem RepD.keep {M M':Nat->Prop}{w w':World}(hk:Keep M w M' w'){d:D}{x:Value}(h:RepD M w d x):RepD M' w' d x:=by
 induction h with
 |v x=>exact .v x
 |nil sz ao cap hm=>exact .nil sz ao cap hm
 |sl sz rows b off cap f hM hb hc hm hr h1 ck bC ih=>
  refine .sl sz rows b off cap f (fun h=>hM (hk.mu b hb h)) (Yx hb hk.size) hc hm hr h1 (fun i j hi hj=>?_) ih;rw[<-ck i j hi hj];exact Zw (a:=⟨b,off+i*sz+j,none⟩) (hk.block b hb hM)
 |ept cells b off f hM hb h1 ck bC ih=>
  refine .ept cells b off f (fun h=>hM (hk.mu b hb h)) (Yx hb hk.size) h1 (fun j hj=>?_) ih;rw[<-ck j hj];exact Zw (a:=⟨b,off+j,none⟩) (hk.block b hb hM)
 |agg cells vs hl h1 bC ih=>exact .agg cells vs hl h1 ih
 |tup ds vs hl bC ih=>exact .tup ds vs hl ih
 |clo g caps vs hl bC ih=>exact .clo g caps vs hl ih
 |nei t x=>exact .nei t x
theorem RepD.one {M:Nat->Prop}{w:World}{d:D}{x:Value}(h:RepD M w d x)(h1:d.one=true):x.oneCell'=true:=by
 cases h<;>first|rfl|exact h1|(simp[D.one]at h1)
def OR:Nat:=1
def Td:List (Nat × (Array Value->Prop)):=[(OR,fun vs=>vs=#[.int .u64 1,.int .u64 10,.int .u64 100,.int .u64 1000,.int .u64 10000,.int .u64 100000,.int .u64 1000000,.int .u64 10000000,.int .u64 100000000,.int .u64 1000000000,.int .u64 10000000000,.int .u64 100000000000,.int .u64 1000000000000,.int .u64 10000000000000,.int .u64 100000000000000,.int .u64 1000000000000000,.int .u64 10000000000000000,.int .u64 100000000000000000,.int .u64 1000000000000000000,.int .u64 10000000000000000000])]
def AU (M:Nat->Prop)(w:World):Prop:=∀x∈Td,¬M x.1/\∃vs E sp,w.heap[x.1]? =some (.cells vs E sp)/\x.2 vs
theorem AU.keep {M M':Nat->Prop}{w w':World}(h:AU M w)(hk:Keep M w M' w'):AU M' w':=fun x hx=>by
 obtain⟨h1,vs,E,sp,h2,h3⟩:=h x hx;have hlt:x.1 < w.heap.size:=(Yz.1 h2).1;exact⟨fun hm=>h1 (hk.mu _ hlt hm),vs,E,sp,(hk.block _ hlt h1).trans h2,h3⟩
inductive PV where
 |d (x:D)
 |any
 |ptr (k off:Nat)
 |own (k g:Nat)
 |rp (k g sz i j:Nat)
 |osl (k g sz a n:Nat)
 |clo (g:Nat) (caps:List PV)
 |agg (cells:List PV)
 |tup (vs:List PV)
 |mref (k:Nat)
def PV.one:PV->Bool
 | .d x=>x.one
 | .any=>false
 | .agg _=>false
 | .tup _=>false
 |_=>true
def di:Value->Option Nat
 | .slice (some a) _ (_+1)=>some a.block
 |_=>none
inductive OwnV (w:World) (E sz:Nat):Value->Nat->List Value->Prop
 |nil:OwnV w E sz (.slice none 0 0) 0 []
 |zero (a:Addr):OwnV w E sz (.slice (some a) 0 0) 0 []
 |row (g n cap:Nat) (cur:Array Value) (xs:List Value) (h0:0 < cap) (hh:w.heap[g]? =some (.cells cur E (0,0))) (hn:n<=cap) (hm:cap<=maxLen) (hs:cur.size=cap*sz) (hl:xs.length=n*sz) (ht:cur.toList.take (n*sz)=xs):
  OwnV w E sz (.slice (some ⟨g,0,none⟩) n cap) n xs
theorem OwnV.one {w:World}{E sz:Nat}{v:Value}{n:Nat}{xs:List Value}(h:OwnV w E sz v n xs):v.oneCell'=true:=by cases h<;>rfl
theorem OwnV.len {w:World}{E sz:Nat}{v:Value}{n:Nat}{xs:List Value}(h:OwnV w E sz v n xs):xs.length=n*sz:=by
 cases h with
 |nil=>simp
 |zero=>simp
 |row g n cap cur xs h0 hh hn hm hs hl ht=>exact hl
theorem OwnV.lt {w:World}{E sz:Nat}{v:Value}{n:Nat}{xs:List Value}(h:OwnV w E sz v n xs){b:Nat}(hb:di v=some b):b < w.heap.size:=by
 cases h with
 |nil=>cases hb
 |zero=>cases hb
 |row g n cap cur xs h0 hh hn hm hs hl ht=>
  obtain⟨cap,rfl⟩:∃c,cap=c+1:=⟨cap - 1,by omega⟩;simp only[di,XW.injEq]at hb;subst hb;rcases XM g w.heap.size with hl|hl
  ·exact hl
  ·rw[Yo hl]at hh;cases hh
theorem OwnV.same {w w':World}{E sz:Nat}{v:Value}{n:Nat}{xs:List Value}(h:OwnV w E sz v n xs)(hb:∀b,di v=some b->w'.heap[b]? =w.heap[b]?):OwnV w' E sz v n xs:=by
 cases h with
 |nil=>exact .nil
 |zero a=>exact .zero a
 |row g n cap cur xs h0 hh hn hm hs hl ht=>
  refine .row g n cap cur xs h0 ?_ hn hm hs hl ht;rw[hb g (by obtain⟨cap,rfl⟩:∃c,cap=c+1:=⟨cap - 1,by omega⟩;rfl)];exact hh
structure Cx where
 M:Nat->Prop
 bl:Nat->Option Nat
 ov:Nat->Nat->Option Value
inductive RepP (c:Cx) (w:World):PV->Value->Prop
 |d (x:D) (v:Value) (h:RepD c.M w x v):RepP c w (.d x) v
 |any (v:Value):RepP c w .any v
 |ptr (k off b:Nat) (h:c.bl k=some b):RepP c w (.ptr k off) (.pointer (some ⟨b,off,none⟩))
 |own (k g:Nat) (v:Value) (h:c.ov k g=some v) (h1:v.oneCell'=true):RepP c w (.own k g) v
 |rp (k g sz i j b n cap:Nat) (h:c.ov k g=some (.slice (some ⟨b,0,none⟩) n cap)):RepP c w (.rp k g sz i j) (.pointer (some ⟨b,i*sz+j,none⟩))
 |osl (k g sz a n b o N cap:Nat) (h:c.ov k g=some (.slice (some ⟨b,0,none⟩) N cap)) (hn:a+n<=N) (hc:N<=cap) (ho:a < cap->o=a*sz):RepP c w (.osl k g sz a n) (.slice (some ⟨b,o,none⟩) n (cap - a))
 |clo (g:Nat) (caps:List PV) (vs:List Value) (hl:caps.length=vs.length)
  (bC:∀(j:Nat) (d:PV) (x:Value),caps[j]? =some d->vs[j]? =some x->RepP c w d x):RepP c w (.clo g caps) (.func (.func g) #[] vs.toArray)
 |agg (cells:List PV) (vs:List Value) (hl:cells.length=vs.length) (h1:∀d∈cells,d.one=true)
  (bC:∀(j:Nat) (d:PV) (x:Value),cells[j]? =some d->vs[j]? =some x->RepP c w d x):RepP c w (.agg cells) (.agg vs.toArray)
 |tup (ds:List PV) (vs:List Value) (hl:ds.length=vs.length)
  (bC:∀(j:Nat) (d:PV) (x:Value),ds[j]? =some d->vs[j]? =some x->RepP c w d x):RepP c w (.tup ds) (.tuple vs.toArray)
 |mref (k b:Nat) (h:c.bl k=some b):RepP c w (.mref k) (.map (some b))
structure Cx.le (c c':Cx):Prop where
 bl:∀k b,c.bl k=some b->c'.bl k=some b
 ov:∀k g v,c.ov k g=some v->c'.ov k g=some v
theorem Cx.le_refl (c:Cx):c.le c:=⟨fun _ _ h=>h,fun _ _ _ h=>h⟩
theorem RepP.keep {c c':Cx}{w w':World}(hc:c.le c')(hk:Keep c.M w c'.M w'){d:PV}{x:Value}(h:RepP c w d x):RepP c' w' d x:=by
 induction h with
 |d x v h=>exact .d x v (h.keep hk)
 |any v=>exact .any v
 |ptr k off b h=>exact .ptr k off b (hc.bl _ _ h)
 |own k g v h h1=>exact .own k g v (hc.ov _ _ _ h) h1
 |rp k g sz i j b n cap h=>exact .rp k g sz i j b n cap (hc.ov _ _ _ h)
 |osl k g sz a n b o N cap h hn Ay ho=>exact .osl k g sz a n b o N cap (hc.ov _ _ _ h) hn Ay ho
 |clo g caps vs hl bC ih=>exact .clo g caps vs hl ih
 |agg cells vs hl h1 bC ih=>exact .agg cells vs hl h1 ih
 |tup ds vs hl bC ih=>exact .tup ds vs hl ih
 |mref k b h=>exact .mref k b (hc.bl _ _ h)
theorem RepP.one {c:Cx}{w:World}{d:PV}{x:Value}(h:RepP c w d x)(h1:d.one=true):x.oneCell'=true:=by
 cases h with
 |d x v h=>exact h.one h1
 |any=>simp[PV.one]at h1
 |ptr=>rfl
 |own k g v h h2=>exact h2
 |agg=>simp[PV.one]at h1
 |tup=>simp[PV.one]at h1
 |_=>rfl
inductive Chunk where
 |none
 |gone
 |box (T:Nat) (cells:List PV)
 |row (E sz g:Nat) (rows:List (List PV))
 |mp (n:Nat) (s:Bool) (ents:List (List Int × Int))
 |it (n:Nat) (s:Bool) (ents:List (List Int × Int)) (seen:List Nat)
def ab (rows:List (List D)):List (List PV):=rows.map (·.map .d)
def j1 (s:Bool)(ks:List Int):Value:=if s then .agg (ks.map (.int .i64)).toArray else .int .i64 (ks.headD 0)
def bA (s:Bool):List (List Int × Int)->Nat->List MapEntry
 |[],_=>[]
 |(k,v)::l,i=>{key:=j1 s k,val:= .int .i64 v,born:=i}::bA s l (i+1)
def Cx.block (c:Cx)(k:Nat):Chunk->Option Nat
 | .box _ _=>c.bl k
 | .row _ _ g _=>(c.ov k g).bind di
 | .mp _ _ _=>c.bl k
 | .it _ _ _ _=>c.bl k
 |_=>Option.none
def bI (c:Cx)(w:World)(ds:List PV)(vs:List Value):Prop:=ds.length=vs.length/\∀(j:Nat) (d:PV) (x:Value),ds[j]? =some d->vs[j]? =some x->RepP c w d x
def eE (M:Nat->Prop)(w:World)(ds:List D)(vs:List Value):Prop:=ds.length=vs.length/\∀(j:Nat) (d:D) (x:Value),ds[j]? =some d->vs[j]? =some x->RepD M w d x
theorem bI.keep {c c':Cx}{w w':World}(hc:c.le c')(hk:Keep c.M w c'.M w'){ds:List PV}{vs:List Value}(h:bI c w ds vs):bI c' w' ds vs:=⟨h.1,fun j d x h1 h2=>(h.2 j d x h1 h2).keep hc hk⟩
theorem eE.keep {M M':Nat->Prop}{w w':World}(hk:Keep M w M' w'){ds:List D}{vs:List Value}(h:eE M w ds vs):eE M' w' ds vs:=⟨h.1,fun j d x h1 h2=>(h.2 j d x h1 h2).keep hk⟩
inductive ChunkOK (c:Cx) (w:World) (k:Nat):Chunk->Prop
 |none (h1:c.bl k= .none) (h2:∀g,c.ov k g= .none):ChunkOK c w k .none
 |gone:ChunkOK c w k .gone
 |box (T:Nat) (cells:List PV) (b:Nat) (vs:List Value) (hb:c.bl k=some b) (hh:w.heap[b]? =some (.cells vs.toArray T (0,0))) (hr:bI c w cells vs) (h1:∀d∈cells,d.one=true):ChunkOK c w k (.box T cells)
 |row (E sz g:Nat) (rows:List (List PV)) (v:Value) (xs:List Value) (hv:c.ov k g=some v) (bj:OwnV w E sz v rows.length xs) (hr:bI c w rows.flatten xs)
  (cL:∀r∈rows,r.length=sz) (h1:∀r∈rows,∀d∈r,d.one=true) (hg:∀g',g < g'->c.ov k g'= .none):ChunkOK c w k (.row E sz g rows)
 |mp (n:Nat) (s:Bool) (ents:List (List Int × Int)) (b:Nat) (hb:c.bl k=some b) (hh:w.heap[b]? =some (.map (bA s ents 0).toArray ents.length)) (hn:∀kv∈ents,kv.1.length=n):ChunkOK c w k (.mp n s ents)
 |it (n:Nat) (s:Bool) (ents:List (List Int × Int)) (seen:List Nat) (b bm:Nat) (hb:c.bl k=some b) (hh:w.heap[b]? =some (.mapIter (some bm) ents.length seen.toArray ents.length)) (hM:¬c.M bm) (hm:w.heap[bm]? =some (.map (bA s ents 0).toArray ents.length)):ChunkOK c w k (.it n s ents seen)
structure FS where
 env:Nat->PV
 heap:Nat->Chunk
structure ExtL (L:Nat->Prop)(w w':World):Prop where
 os:w'.os=w.os
 tape:w'.tape=w.tape
 output:w'.output=w.output
 size:w.heap.size<=w'.heap.size
 block:∀b,b < w.heap.size->¬L b->w'.heap[b]? =w.heap[b]?
theorem ExtL.refl (L:Nat->Prop)(w:World):ExtL L w w:=⟨rfl,rfl,rfl,Xz _,fun _ _ _=>rfl⟩
theorem ExtL.trans {L:Nat->Prop}{w w' w'':World}(h:ExtL L w w')(g:ExtL L w' w''):ExtL L w w'':=
 ⟨g.os.trans h.os,g.tape.trans h.tape,g.output.trans h.output,Yy h.size g.size,fun b hb hl=>(g.block b (Yx hb h.size) hl).trans (h.block b hb hl)⟩
theorem ExtL.of_ext {L:Nat->Prop}{w w':World}(h:cM w w'):ExtL L w w':=⟨h.os,h.tape,h.output,h.size,fun b hb _=>h.block b hb⟩
theorem ExtL.ext {w w':World}(h:ExtL (fun _=>False) w w'):cM w w':=⟨h.os,h.tape,h.output,h.size,fun b hb=>h.block b hb id⟩
structure Cfg where
 P:Program
 n:Nat
 m:Nat
 w0:World
 M0:Nat->Prop
 L:Nat->Prop
 c0:Cx
structure RealC (X:Cfg)(s:FS)(a:Act)(w:World)(c:Cx):Prop where
 size:a.tmps.size=X.n
 defers:a.defers=[]
 ext:ExtL X.L X.w0 w
 inv:AU (fun b=>X.M0 b\/X.L b) X.w0
 fresh:∀b,X.M0 b->b < X.w0.heap.size/\¬X.L b
 mu:∀b,c.M b↔X.M0 b\/∃k,c.block k (s.heap k)=some b
 new:∀k b,c.block k (s.heap k)=some b->(X.L b\/X.w0.heap.size<=b)/\b < w.heap.size
 apart:∀k k' b,c.block k (s.heap k)=some b->c.block k' (s.heap k')=some b->k=k'
 env:∀t,RepP c w (s.env t) (a.tmps.getD t undef)
 chunk:∀k,ChunkOK c w k (s.heap k)
 lent:∀k,k < X.m->c.bl k=X.c0.bl k/\∀g v,X.c0.ov k g=some v->c.ov k g=some v
theorem RealC.ginv {X:Cfg}{s:FS}{a:Act}{w:World}{c:Cx}(h:RealC X s a w c):AU c.M w:=
 h.inv.keep ⟨h.ext.size,fun b hb hn=>h.ext.block b hb (fun hl=>hn (.inr hl)),fun b hb hm=>by
  rcases(h.mu b).1 hm with h0|⟨k,hk⟩
  ·exact .inl h0
  ·rcases(h.new k b hk).1 with h1|h1
   ·exact .inr h1
   ·omega⟩
def lF (X:Cfg)(s:FS)(a:Act)(w:World):Prop:=∃c,RealC X s a w c
structure Res where
 pv:PV
 eff:List (Nat × Chunk):=[]
 touch:List Nat:=[]
def cH:List (Nat × Chunk)->(Nat->Chunk)->Nat->Chunk
 |[],h=>h
 |(k,c)::l,h=>fun k'=>if k'=k then c else cH l h k'
def FS.put (s:FS)(dst:Option Nat)(p:PV):FS:=
 match dst with
 |some d=>{s with env:=fun t=>if t=d then p else s.env t}
 |none=>s
def FS.app (s:FS)(dst:Option Nat)(r:Res):FS:=FS.put {s with heap:=cH r.eff s.heap} dst r.pv
def bO (X:Cfg)(ops:Array Oper)(s:FS)(o:Oper)(r:Res):Prop:=
 (∀d,o.dst=some d->d < X.n)/\(∀kc∈r.eff,kc.1∈r.touch)/\
 ∀s':FS,(∀t∈o.looksAt ops,s'.env t=s.env t)->(∀k∈r.touch,s'.heap k=s.heap k)->∀a w,lF X s' a w->
  ∀K Q,(∀v w',lF X (s'.app o.dst r) (a.put o.dst v) w'->K (a.put o.dst v) w')->Oper.wp X.P o a w K Q
theorem a5H {p:Prop}(h:p:=by
 rw[hx]at this;simp at this;subst this;simp only[Y0,hx];simpa using hg):p:=h
structure It where
 o:Oper
 want:Bool
 res:Res
def Dl (ops:Array Oper)(s:FS)(j:Nat):Option (Option Bool):=
 match (ops[j]?).bind (·.dst)with
 |none=>some none
 |some t=>match s.env t with
  | .d (.v (.bool b))=>some (some b)
  | .d (.v (.tuple _))=>some none
  |_=>none
def pR (ops:Array Oper)(s:FS)(o:Oper):Option Bool:=
 match o.guard with
 |none=>some true
 |some (j,want)=>(Dl ops s j).map (·==some want)
def Ik:Res:={pv:= .d (.v undef)}
def OS (X:Cfg)(ops:Array Oper)(s:FS)(it:It):Prop:=
 pR ops s it.o=some it.want/\(it.want=true->bO X ops s it.o it.res)/\(it.want=false->it.res=Ik/\∀d,it.o.dst=some d->d < X.n)
theorem RealC.put {X:Cfg}{s:FS}{a:Act}{w:World}{c:Cx}(h:RealC X s a w c){p:PV}{v:Value}(hp:RepP c w p v){dst:Option Nat}(hd:∀d,dst=some d->d < X.n):
 RealC X (s.put dst p) (a.put dst v) w c:=by
 cases dst with
 |none=>exact h
 |some d=>
  have hd:=hd d rfl;refine⟨by simpa[Act.put]using h.size,by simpa[Act.put]using h.defers,h.ext,h.inv,h.fresh,h.mu,h.new,h.apart,fun t=>?_,h.chunk,h.lent⟩;by_cases ht:t=d
  ·subst ht;have hs:t < a.tmps.size:=by rw[h.size];exact hd
   simp only[FS.put,Act.put,if_true,Yv,Array.getElem?_setIfInBounds,hs];simpa[hs]using hp
  ·have bH:d≠t:=fun e=>ht e.symm;have:=h.env t;simp only[FS.put,Act.put,af ht,Yv,_q bH];simpa[Yv]using this
theorem RealC.bool {X:Cfg}{s:FS}{a:Act}{w:World}{c:Cx}(h:RealC X s a w c){t:Nat}{x:Value}(ht:s.env t= .d (.v x)):a.tmps.getD t undef=x:=by
 have:=h.env t;rw[ht]at this;cases this with
 |d x v h=>cases h with|v=>rfl
theorem OT {X:Cfg}{ops:Array Oper}{s:FS}{a:Act}{w:World}{o:Oper}{g:Bool}(h:lF X s a w)(hg:pR ops s o=some g):Region.wanted o (yielded ops a.tmps)=g:=by
 obtain⟨c,h⟩:=h;unfold pR at hg;unfold Region.wanted;split at hg
 ·rename_i hn;simp only[hn];exact XW.inj hg
 ·rename_i j want hj;simp only[hj];unfold Dl at hg;unfold yielded;split at hg
  ·rename_i hn;rw[hn];simp at hg;simpa using hg
  ·rename_i t hn;rw[hn];split at hg
   ·rename_i b hb;have:=h.bool hb;rw[Yv]at this;cases hx:a.tmps[t]? with
    |none=>rw[hx]at this;simp[undef]at this
    |some y=>exact a5H
   ·rename_i vs hb;have:=h.bool hb;rw[Yv]at this;cases hx:a.tmps[t]? with
    |none=>simp only[Y0,hx];simpa using hg
    |some y=>exact a5H
   ·simp at hg
theorem OU {X:Cfg}{ops:Array Oper}{s s':FS}{it:It}{i:Nat}{a:Act}{w:World}{K:Act->World->Prop}{Q:Exit->Act->World->Prop}(hi:ops[i]? =some it.o)(h:OS X ops s it)
 (he:∀t∈it.o.looksAt ops,s'.env t=s.env t) (hk:∀k∈it.res.touch,s'.heap k=s.heap k) (hr:lF X s' a w)
 (hK:∀v w',lF X (s'.app it.o.dst it.res) (a.put it.o.dst v) w'->K (a.put it.o.dst v) w'):wpOp X.P ops Q i K a w:=by
 obtain⟨h1,h2,h3⟩:=h;have hg:pR ops s' it.o=some it.want:=by
  rw[<-h1];unfold pR;split
  ·rfl
  ·rename_i j want hj;unfold Dl;cases hd:(ops[j]?).bind (·.dst)with
   |none=>rfl
   |some t=>
    have:=he t (by simp[Oper.looksAt,hj,hd]);simp only[this]
 have hw:=OT hr hg;unfold wpOp;simp only[hi,hw];cases VP:it.want with
 |true=>
  simp only[if_true];exact .inl ((h2 VP).2.2 s' he hk a w hr K Q hK)
 |false=>
  obtain⟨sV,vW⟩:=h3 VP;simp only[YB,if_false];refine hK undef w ?_;rw[sV];obtain⟨c,hc⟩:=hr;exact⟨c,hc.put (.d _ _ (.v _)) vW⟩
def lG (X:Cfg)(ops:Array Oper):FS->Nat->List It->Prop
 |_,i,[]=>i=ops.size
 |s,i,it::its=>ops[i]? =some it.o/\OS X ops s it/\lG X ops (s.app it.o.dst it.res) (i+1) its
def uN (s:FS)(its:List It):FS:=its.foldl (fun s it=>s.app it.o.dst it.res) s
theorem yd {X:Cfg}{ops:Array Oper}{Q:Exit->Act->World->Prop}:∀(its:List It) (s:FS) (i:Nat) (a:Act) (w:World),lG X ops s i its->lF X s a w->
 (∀a' w',lF X (uN s its) a' w'->Q .normal a' w')->wpOps X.P ops Q (List.range' i its.length) a w
 |[],_,_,a,w,_,hr,hQ=>hQ a w hr
 |it::its,s,i,a,w,⟨hi,Ox,ht⟩,hr,hQ=>by
  rw[Xx,List.range'_succ,wpOps_cons];exact OU hi Ox (fun _ _=>rfl) (fun _ _=>rfl) hr fun v w' hr'=>yd its _ _ _ _ ht hr' hQ
theorem ye {X:Cfg}{ops:Array Oper}:∀(its:List It) (s:FS) (i:Nat),lG X ops s i its->i+its.length=ops.size/\∀j it,its[j]? =some it->ops[i+j]? =some it.o/\OS X ops (uN s (its.take j)) it
 |[],_,_,h=>⟨by simpa[lG]using h,fun j it h=>by simp at h⟩
 |it::its,s,i,⟨h1,h2,h3⟩=>by
  obtain⟨ih1,ih2⟩:=ye its _ _ h3;refine⟨by simp only[Xx];omega,fun j x hj=>?_⟩;cases j with
  |zero=>
   simp at hj;subst hj;exact⟨h1,h2⟩
  |succ j=>
   have:=ih2 j x (by simpa using hj);refine⟨by rw[show i+(j+1)=i+1+j by omega];exact this.1,this.2⟩
def Il (l:List Nat)(es:List Edge):Nat:=es.foldl (fun s e=>if Region.binds .any e then s|||2 ^ e.on|||l.getD e.on 0 else s) 0
def AV (ops:Array Oper):Nat->List Nat
 |0=>[]
 |n+1=>let l:=AV ops n;l++[Il l (((ops[n]?).map (·.after.toList)).getD [])]
def pS (ops:Array Oper)(L:Nat->Bool):Prop:=∀j o,ops[j]? =some o->L j=true->∀e∈o.after.toList,Region.binds .any e=true->L e.on=true
theorem yf (l:List Nat)(i:Nat):∀(es:List Edge) (s:Nat),(es.foldl (fun s e=>if Region.binds .any e then s|||2 ^ e.on|||l.getD e.on 0 else s) s).testBit i=true->
 s.testBit i=true\/∃e∈es,Region.binds .any e=true/\(e.on=i\/(l.getD e.on 0).testBit i=true)
 |[],s,h=> .inl h
 |e::es,s,h=>by
  rw[YO]at h;rcases yf l i es _ h with h|⟨e',h1,h2⟩
  ·by_cases hb:Region.binds .any e=true
   ·rw[aj hb,Nat.testBit_or,Nat.testBit_or,Nat.testBit_two_pow]at h;simp only[Bool.or_eq_true,decide_eq_true_eq]at h;rcases h with (h|h)|h
    ·exact .inl h
    ·exact .inr ⟨e,by simp,hb,.inl h⟩
    ·exact .inr ⟨e,by simp,hb,.inr h⟩
   ·rw[af hb]at h;exact .inl h
  ·exact .inr ⟨e',Y1 _ h1,h2⟩
theorem wn (ops:Array Oper):∀n,(AV ops n).length=n
 |0=>rfl
 |n+1=>by simp[AV,wn ops n]
theorem kj {ops:Array Oper}{L:Nat->Bool}(hc:pS ops L):∀n j i,((AV ops n).getD j 0).testBit i=true->L j=true->L i=true
 |0,j,i,h,_=>by simp[AV]at h
 |n+1,j,i,h,hj=>by
  have bB:=wn ops n;simp only[AV,XC,List.getElem?_append]at h;split at h
  ·exact kj hc n j i (by simpa[XC]using h) hj
  ·rename_i hge;rcases XM n j with hnj|hnj
   ·rw[bB]at h;rw[show ([Il (AV ops n) (((ops[n]?).map (·.after.toList)).getD [])]:List Nat)[j - n]? =none by simp;omega]at h;simp at h
   ·obtain rfl:j=n:=aa;rw[bB,YF]at h;simp only[List.getElem?_cons_zero,Yp]at h;unfold Il at h;cases ho:ops[j]? with
    |none=>simp[ho]at h
    |some o=>
     rw[ho]at h;rcases yf _ _ _ _ h with h|⟨e,h1,h2,h3⟩
     ·simp at h
     ·have he:=hc j o ho hj e (by simpa using h1) h2;rcases h3 with h3|h3
      ·rw[<-h3];exact he
      ·exact kj hc j e.on i (by simpa[XC]using h3) he
def yg (ops:Array Oper)(x y:Oper)(kx ky tx ty:List Nat):Bool:=x.apart ops y&&kx.all (fun k=>!ty.contains k)&&ky.all (fun k=>!tx.contains k)
def pT (ops:Array Oper)(sm:List (List Nat × List Nat)):Bool:=
 let l:=AV ops ops.size
 (X8 ops.size).all fun j=>(X8 j).all fun i=>(l.getD j 0).testBit i||
  (match ops[i]?,ops[j]? with
   |some x,some y=>yg ops x y (sm.getD i ([],[])).1 (sm.getD j ([],[])).1 (sm.getD i ([],[])).2 (sm.getD j ([],[])).2
   |_,_=>false)
def E1 (its:List It)(s:FS)(i:Nat):FS:=match its[i]? with|some it=>s.app it.o.dst it.res|none=>s
def nO (s:FS)(its:List It)(L:Nat->Bool):FS:=((X8 its.length).filter L).foldl (E1 its) s
def eN (its:List It)(t:Nat)(i:Nat):Bool:=match its[i]? with|some it=>it.o.dst==some t|none=>false
def ew (its:List It)(k:Nat)(i:Nat):Bool:=match its[i]? with|some it=>(it.res.eff.map (·.1)).contains k|none=>false
theorem Dm {k:Nat}{h:Nat->Chunk}:∀{l:List (Nat × Chunk)},(l.map (·.1)).contains k=false->cH l h k=h k
 |[],_=>rfl
 |(k',c)::l,hn=>by
  simp only[Xm,List.contains_cons,Zx,beq_eq_false_iff_ne,ne_eq]at hn;simp only[cH,af hn.1];exact Dm hn.2
theorem Dn {k:Nat}{h h':Nat->Chunk}:∀{l:List (Nat × Chunk)},(l.map (·.1)).contains k=true->cH l h k=cH l h' k
 |[],hn=>by simp at hn
 |(k',c)::l,hn=>by
  simp only[cH];split
  ·rfl
  ·rename_i bH;refine Dn ?_;simpa[bH]using hn
theorem tg {s:FS}{dst:Option Nat}{r:Res}{t:Nat}:(s.app dst r).env t=if dst=some t then r.pv else s.env t:=by
 cases dst with
 |none=>simp[FS.app,FS.put]
 |some d=>
  simp only[FS.app,FS.put,XW.injEq];by_cases h:t=d
  ·subst h;simp
  ·rw[af h,af (fun e=>h e.symm)]
theorem pU {s:FS}{dst:Option Nat}{r:Res}{k:Nat}:(s.app dst r).heap k=cH r.eff s.heap k:=by
 cases dst<;>rfl
theorem th (its:List It)(t:Nat):∀(l:List Nat) (s:FS),(l.foldl (E1 its) s).env t=((l.filter (eN its t)).foldl (E1 its) s).env t:=by
 have key:∀(l:List Nat) (s s':FS),s.env t=s'.env t->(l.foldl (E1 its) s).env t=((l.filter (eN its t)).foldl (E1 its) s').env t:=by
  intro l;induction l with
  |nil=>intro s s' h;exact h
  |cons i l ih=>
   intro s s' h;rw[YO,ZF];by_cases hw:eN its t i=true
   ·rw[aj hw,YO];refine ih _ _ ?_;unfold E1;unfold eN at hw;split<;>rename_i hi<;>rw[hi]at hw
    ·rw[tg,tg,aj (by simpa using hw),aj (by simpa using hw)]
    ·cases hw
   ·rw[af hw];refine ih _ _ ?_;unfold E1;unfold eN at hw;split<;>rename_i hi<;>rw[hi]at hw
    ·rw[tg,af (by simpa using hw),h]
    ·exact h
 intro l s;exact key l s s rfl
theorem qL (its:List It)(k:Nat):∀(l:List Nat) (s:FS),(l.foldl (E1 its) s).heap k=((l.filter (ew its k)).foldl (E1 its) s).heap k:=by
 have key:∀(l:List Nat) (s s':FS),s.heap k=s'.heap k->(l.foldl (E1 its) s).heap k=((l.filter (ew its k)).foldl (E1 its) s').heap k:=by
  intro l;induction l with
  |nil=>intro s s' h;exact h
  |cons i l ih=>
   intro s s' h;rw[YO,ZF];by_cases hw:ew its k i=true
   ·rw[aj hw,YO];refine ih _ _ ?_;unfold E1;unfold ew at hw;split<;>rename_i hi<;>rw[hi]at hw
    ·rw[pU,pU,Dn hw]
    ·cases hw
   ·rw[af hw];refine ih _ _ ?_;unfold E1;unfold ew at hw;split<;>rename_i hi<;>rw[hi]at hw
    ·rw[pU,Dm (by simpa using hw),h]
    ·exact h
 intro l s;exact key l s s rfl
theorem tj (s:FS)(its:List It):∀i,i<=its.length->uN s (its.take i)=(X8 i).foldl (E1 its) s
 |0,_=>rfl
 |i+1,h=>by
  rw[_f,Zm,<-tj s its i aa];have hi:its[i]? =some its[i]:=Xk aa;simp only[YO,List.foldl_nil,E1,hi,uN];rw[Zf aa,Zm];rfl
theorem oL {n i:Nat}(hi:i<=n){p q:Nat->Bool}(h1:∀j,j < i->p j=q j)(h2:∀j,i<=j->j < n->p j=false):(X8 n).filter p=(X8 i).filter q:=by
 obtain⟨m,rfl⟩:∃m,n=i+m:=⟨n - i,by omega⟩;rw[List.range_add,YY];have e1:(X8 i).filter p=(X8 i).filter q:=J' fun j hj=>h1 j (YS.1 hj);have e2:(List.map (fun x=>i+x) (X8 m)).filter p=[]:=by
  rw[Zz];intro j hj;obtain⟨x,hx,rfl⟩:=XN.1 hj;have:=YS.1 hx;rw[h2 _ aa aa];simp
 rw[e1,e2,Yi]
theorem a5b {p:Prop}(h:p:=by
 have lf:(j==i)=false:=by rw[beq_eq_false_iff_ne];omega
 simp only[lf,JQ,Bool.or_self,Bool.and_false]):p:=h
theorem a5s {p:Prop}(h:p:=by
 have Eu:(j==i)=false:=by rw[beq_eq_false_iff_ne];exact lf
 simp only[Eu,Bool.or_false]):p:=h
theorem a5C {p:Prop}(h:p:=by
 rw[kj hc ops.size j i hb JQ]at hL;cases hL):p:=h
def Im (its:List It):List (List Nat × List Nat):=its.map fun it=>(it.res.eff.map (·.1),it.res.touch)
def pV (ops:Array Oper):Bool:=(X8 ops.size).all fun i=>((ops[i]?).map fun o=>o.after.toList.all fun e=>!Region.binds .any e||decide (e.on < i)).getD true
section
variable {X:Cfg}{ops:Array Oper}{s:FS}{its:List It}
structure Plan (X:Cfg)(ops:Array Oper)(s:FS)(its:List It):Prop where
 len:its.length=ops.size
 at_:∀(j:Nat) (it:It),its[j]? =some it->ops[j]? =some it.o/\OS X ops (uN s (its.take j)) it
 ind:∀(i j:Nat) (x y:It),i < j->its[i]? =some x->its[j]? =some y->((AV ops ops.size).getD j 0).testBit i=true\/yg ops x.o y.o (x.res.eff.map (·.1)) (y.res.eff.map (·.1)) x.res.touch y.res.touch=true
 sub:∀(j:Nat) (it:It),its[j]? =some it->∀kc∈it.res.eff,kc.1∈it.res.touch
 back:∀(i:Nat) (o:Oper),ops[i]? =some o->∀e∈o.after.toList,Region.binds .any e=true->e.on < i
theorem Te (ht:lG X ops s 0 its)(hi:pT ops (Im its)=true)(hb:pV ops=true):Plan X ops s its:=by
 obtain⟨h1,h2⟩:=ye its s 0 ht;simp only[XE]at h1 h2;refine⟨h1,h2,fun i j x y hij hx hy=>?_,fun j it hj kc SW=>?_,fun i o ho e he hbi=>?_⟩
 ·have hjn:j < ops.size:=by rw[<-h1];exact(Xn.1 hy).1
  unfold pT at hi;simp only[XA,YS]at hi;have:=hi j hjn i hij;rw[(h2 i x hx).1,(h2 j y hy).1]at this;simp only[Im,XC,Xy,hx,hy,Yg,Yp,Bool.or_eq_true]at this;simpa[XC]using this
 ·obtain⟨_,h3,h4,h5⟩:=h2 j it hj;cases hw:it.want with
  |true=>exact(h4 hw).2.1 kc SW
  |false=>rw[(h5 hw).1]at SW;simp[Ik]at SW
 ·unfold pV at hb;simp only[XA,YS]at hb;have:=hb i (Yz.1 ho).1;rw[ho]at this;simp only[Yg,Yp,XA]at this;have:=this e he;simpa[hbi]using this
def xd (listed:Array Bool):Nat->Bool:=fun j=>listed.getD j false
theorem jm {x y:Oper}{kx ky tx ty:List Nat}(h:yg ops x y kx ky tx ty=true):x.apart ops y=true/\(∀k∈kx,k∉ty)/\(∀k∈ky,k∉tx):=by
 simp only[yg,Xt,XA,ZO,List.contains_eq_mem,decide_eq_false_iff_not]at h;exact⟨h.1.1,h.1.2,h.2⟩
theorem wt {L:Nat->Bool}(hc:pS ops L){i:Nat}{o:Oper}(ho:ops[i]? =some o)(hr:∀e∈o.after,Region.binds .any e=true->L e.on=true):pS ops (fun j=>L j||j==i):=by
 intro j o' ho' hj e he hb;simp only[Bool.or_eq_true,beq_iff_eq]at hj ⊢;rcases hj with hj|hj
 ·exact .inl (hc j o' ho' hj e he hb)
 ·subst hj;rw[ho]at ho';cases ho';exact .inl (hr e (by simpa using he) hb)
theorem tm {L:Nat->Bool}(hc:pS ops L){i j:Nat}{o:Oper}(ho:ops[i]? =some o)(hr:∀e∈o.after,Region.binds .any e=true->L e.on=true)
 (hij:j≠i) (hb:((AV ops ops.size).getD i 0).testBit j=true):L j=true:=by
 have:=kj (wt hc ho hr) ops.size i j hb ah;simpa[hij]using this
variable (hp:Plan X ops s its)
include hp
theorem LX {L:Nat->Bool}(hc:pS ops L){i:Nat}{it:It}(hi:its[i]? =some it)(hL:L i=false)(hr:∀e∈it.o.after,Region.binds .any e=true->L e.on=true)(t:Nat)(ht:t∈it.o.looksAt ops):
 (nO s its L).env t=(uN s (its.take i)).env t:=by
 have d9:i < its.length:=(Xn.1 hi).1;have VQ:=(hp.at_ i it hi).1;unfold nO;rw[th its t ((X8 its.length).filter L),tj s its i aa,th its t (X8 i),Zt];rw[oL (i:=i) (q:=eN its t) aa]
 ·intro j hj;by_cases hw:eN its t j=true
  ·have JQ:L j=true:=by
    unfold eN at hw;split at hw
    ·rename_i x hx;rcases hp.ind j i x it hj hx hi with hb|hn
     ·exact tm hc VQ hr aa hb
     ·exact absurd ht ((Oper.apart_spec (jm hn).1).1 t (by simpa using hw))
    ·cases hw
   simp[hw,JQ]
  ·simp at hw;simp[hw]
 ·intro j hj hjn;by_cases hw:eN its t j=true
  ·rcases XM i j with hij|hij
   ·cases JQ:L j with
    |false=>simp
    |true=>
     unfold eN at hw;split at hw
     ·rename_i x hx;rcases hp.ind i j it x hij hi hx with hb|hn
      ·exact a5C
      ·exact absurd ht ((Oper.apart_spec (jm hn).1).2.2 t (by simpa using hw))
     ·cases hw
   ·obtain rfl:j=i:=aa;simp[hL]
  ·simp at hw;simp[hw]
theorem In {L:Nat->Bool}(hc:pS ops L){i:Nat}{it:It}(hi:its[i]? =some it)(hL:L i=false)(hr:∀e∈it.o.after,Region.binds .any e=true->L e.on=true)(k:Nat)(ht:k∈it.res.touch):
 (nO s its L).heap k=(uN s (its.take i)).heap k:=by
 have d9:i < its.length:=(Xn.1 hi).1;have VQ:=(hp.at_ i it hi).1;unfold nO;rw[qL its k ((X8 its.length).filter L),tj s its i aa,qL its k (X8 i),Zt];rw[oL (i:=i) (q:=ew its k) aa]
 ·intro j hj;by_cases hw:ew its k j=true
  ·have JQ:L j=true:=by
    unfold ew at hw;split at hw
    ·rename_i x hx;rcases hp.ind j i x it hj hx hi with hb|hn
     ·exact tm hc VQ hr aa hb
     ·exact absurd ht ((jm hn).2.1 k (by simpa using hw))
    ·cases hw
   simp[hw,JQ]
  ·simp at hw;simp[hw]
 ·intro j hj hjn;by_cases hw:ew its k j=true
  ·rcases XM i j with hij|hij
   ·cases JQ:L j with
    |false=>simp
    |true=>
     unfold ew at hw;split at hw
     ·rename_i x hx;rcases hp.ind i j it x hij hi hx with hb|hn
      ·exact a5C
      ·exact absurd ht ((jm hn).2.2 k (by simpa using hw))
     ·cases hw
   ·obtain rfl:j=i:=aa;simp[hL]
  ·simp at hw;simp[hw]
theorem OV {L:Nat->Bool}(hc:pS ops L){i:Nat}{it:It}(hi:its[i]? =some it)(hL:L i=false):
 nO s its (fun j=>L j||j==i)=(nO s its L).app it.o.dst it.res:=by
 have d9:i < its.length:=(Xn.1 hi).1;have late:∀(j:Nat) (x:It),i < j->its[j]? =some x->L j=true->yg ops it.o x.o (it.res.eff.map (·.1)) (x.res.eff.map (·.1)) it.res.touch x.res.touch=true:=by
  intro j x hij hx JQ;rcases hp.ind i j it x hij hi hx with hb|hn
  ·exact a5C
  ·exact hn
 have R0:∀t,(nO s its (fun j=>L j||j==i)).env t=((nO s its L).app it.o.dst it.res).env t:=by
  intro t;rw[tg];unfold nO;rw[th,Zt];by_cases hw:it.o.dst=some t
  ·rw[aj hw];rw[oL (i:=i+1) (q:=fun j=>eN its t j&&(L j||j==i)) aa (fun _ _=>rfl),_f,YY,Zm]
   ·have:(fun j=>eN its t j&&(L j||j==i)) i=true:=by simp[eN,hi,hw]
    rw[ZF,aj this,List.filter_nil,YO,List.foldl_nil];simp only[E1,hi];rw[tg,aj hw]
   ·intro j hj hjn;cases JQ:L j with
    |false=>exact a5b
    |true=>
     cases hx:its[j]? with
     |none=>simp[eN,hx]
     |some x=>
      have h2:=(Oper.apart_spec (jm (late j x aa hx JQ)).1).2.1 t hw;simp[eN,hx,h2]
  ·rw[af hw,th its t ((X8 its.length).filter L),Zt];rw[J' (p:=fun j=>eN its t j&&(L j||j==i)) (q:=fun j=>eN its t j&&L j)];intro j _;by_cases lf:j=i
   ·subst lf;simp[eN,hi,hw]
   ·exact a5s
 have a1u:∀k,(nO s its (fun j=>L j||j==i)).heap k=((nO s its L).app it.o.dst it.res).heap k:=by
  intro k;rw[pU];unfold nO;rw[qL,Zt];by_cases hw:(it.res.eff.map (·.1)).contains k=true
  ·rw[oL (i:=i+1) (q:=fun j=>ew its k j&&(L j||j==i)) aa (fun _ _=>rfl),_f,YY,Zm]
   ·have:(fun j=>ew its k j&&(L j||j==i)) i=true:=by
     simp only[ew,hi,hw];simp
    rw[ZF,aj this,List.filter_nil,YO,List.foldl_nil];simp only[E1,hi];rw[pU];exact Dn hw
   ·intro j hj hjn;cases JQ:L j with
    |false=>exact a5b
    |true=>
     cases hx:its[j]? with
     |none=>simp[ew,hx]
     |some x=>
      have h2:=(jm (late j x aa hx JQ)).2.1 k (by simpa using hw);have h3:(x.res.eff.map (·.1)).contains k=false:=by
       cases lg:(x.res.eff.map (·.1)).contains k with
       |false=>rfl
       |true=>
        obtain⟨kc,h4,h5⟩:=XN.1 (by simpa using lg:k∈x.res.eff.map (·.1));exact absurd (h5 ▸ hp.sub j x hx kc h4) h2
      simp only[ew,hx,h3,Bool.false_and]
  ·rw[Dm (by simpa using hw),qL its k ((X8 its.length).filter L),Zt];rw[J' (p:=fun j=>ew its k j&&(L j||j==i)) (q:=fun j=>ew its k j&&L j)];intro j _;by_cases lf:j=i
   ·subst lf;have:ew its k j=false:=by simp only[ew,hi];simpa using hw
    simp[this]
   ·exact a5s
 generalize e1:nO s its (fun j=>L j||j==i)=x at*;generalize e2:(nO s its L).app it.o.dst it.res=y at*;cases x;cases y;simp only[FS.mk.injEq];exact⟨funext R0,funext a1u⟩
theorem Io {listed:Array Bool}(hs:listed.size=ops.size)(hr:Region.ready .any ops listed=[]):∀j,j < ops.size->xd listed j=true:=by
 intro j;induction j using Nat.strongRecOn with
 |_ j ih=>
  intro hj;cases hl:xd listed j with
  |true=>rfl
  |false=>
   obtain⟨o,ho⟩:∃o,ops[j]? =some o:=⟨ops[j],YQ hj⟩;have:j∈Region.ready .any ops listed:=by
    rw[mem_ready];refine⟨?_,o,ho,fun e he hb=>?_⟩
    ·unfold xd at hl;rw[Yv,YQ aa]at hl ⊢;simpa using hl
    ·have hlt:=hp.back j o ho e (by simpa using he) hb;exact ih e.on hlt aa
   rw[hr]at this;cases this
theorem OW {Q:Exit->Act->World->Prop}(hQ:∀a' w',lF X (uN s its) a' w'->Q .normal a' w'):∀(fuel:Nat) (listed:Array Bool) (a:Act) (w:World),listed.size=ops.size->pS ops (xd listed)->
 lF X (nO s its (xd listed)) a w->((X8 ops.size).filter fun j=>!xd listed j).length<=fuel->wpAny X.P .any ops Q fuel listed a w:=by
 have fin:∀(listed:Array Bool) (a:Act) (w:World),listed.size=ops.size->lF X (nO s its (xd listed)) a w->Region.ready .any ops listed=[]->Q .normal a w:=by
  intro listed a w hs hr he;have bo:=Io hp hs he;have:nO s its (xd listed)=uN s its:=by
   have h1:=tj s its its.length (Xz _);rw[Xq]at h1;rw[h1];unfold nO;congr 1;rw[Y5];intro j hj;exact bo j (by rw[<-hp.len];exact YS.1 hj)
  rw[this]at hr;exact hQ a w hr
 intro fuel;induction fuel with
 |zero=>
  intro listed a w hs hc hr hn;have bo:∀j,j < ops.size->xd listed j=true:=by
   intro j hj;have h0:=X4 (Nat.le_zero.1 hn);rw[Zz]at h0;have:=h0 j (YS.2 hj);simpa using this
  have he:Region.ready .any ops listed=[]:=by
   rw[List.eq_nil_iff_forall_not_mem];intro j hj;rw[mem_ready]at hj;obtain⟨h1,o,ho,_⟩:=hj;have hlt:=(Yz.1 ho).1;have:=bo j hlt;unfold xd at this;rw[Yv,YQ aa]at this h1;simp at this h1;rw[this]at h1;cases h1
  exact⟨he,fin listed a w hs hr he⟩
 |succ fuel ih=>
  intro listed a w hs hc hr hn;refine⟨fin listed a w hs hr,fun i hi=>?_⟩;rw[mem_ready]at hi;obtain⟨h1,o,ho,bo⟩:=hi;have hlt:=(Yz.1 ho).1;have hL:xd listed i=false:=by
   unfold xd;rw[Yv,YQ aa]at h1 ⊢;simpa using h1
  obtain⟨it,Ox⟩:∃it,its[i]? =some it:=⟨its[i]'(by rw[hp.len];exact hlt),Xk _⟩;obtain⟨VQ,bJ⟩:=hp.at_ i it Ox;rw[ho]at VQ;cases VQ;have hLn:xd (listed.setIfInBounds i true)=fun j=>xd listed j||j==i:=by
   funext j;unfold xd;by_cases lf:j=i
   ·subst lf;simp[Yv,hs,hlt]
   ·rw[getD_set_ne false (fun e=>lf e.symm)];simp[lf]
  refine OU ho bJ (LX hp hc Ox hL bo) (In hp hc Ox hL bo) hr fun v w' hr'=>?_;refine ih _ _ _ (by simpa using hs) ?_ ?_ ?_
  ·rw[hLn];exact wt hc ho bo
  ·rw[hLn,OV hp hc Ox hL];exact hr'
  ·rw[hLn];have a2w:((X8 ops.size).filter fun j=>!(xd listed j||j==i)).length < ((X8 ops.size).filter fun j=>!xd listed j).length:=by
    have Az:((X8 ops.size).filter fun j=>!(xd listed j||j==i))=((X8 ops.size).filter fun j=>!xd listed j).filter (fun j=>!(j==i)):=by
     rw[Zt];exact J' fun j _=>by cases xd listed j<;>simp
    rw[Az];refine List.length_filter_lt_length_iff_exists.2 ⟨i,?_,by simp⟩;rw[ZB];exact⟨YS.2 hlt,by simp[hL]⟩
   show ((X8 ops.size).filter fun j=>!(xd listed j||j==i)).length<=fuel;omega
end
theorem BH (n j:Nat):xd (Za n false) j=false:=by
 unfold xd;rw[Yv,Array.getElem?_replicate];split<;>rfl
theorem E2 {X:Cfg}{ops:Array Oper}{s:FS}{its:List It}{Q:Exit->Act->World->Prop}{a:Act}{w:World}(hm:X.P.follows .mixedOrders=true)(id:Nat)(draw:Bool)(ht:lG X ops s 0 its)(hd:draw=true->pT ops (Im its)=true/\pV ops=true)
 (hr:lF X s a w) (hQ:∀a' w',lF X (uN s its) a' w'->Q .normal a' w'):(Code.region id ops draw).wp X.P Q a w:=by
 cases draw with
 |false=>
  refine wp_region ?_;have h1:=(ye its s 0 ht).1;have:=yd its s 0 a w ht hr hQ;rw[List.range_eq_range',<-h1,XE];exact this
 |true=>
  obtain⟨hi,hb⟩:=hd rfl;refine wp_region_any hm (OW (Te ht hi hb) hQ _ _ _ _ ah ?_ ?_ ?_)
  ·intro j o ho hj;rw[BH]at hj;cases hj
  ·have:nO s its (xd (Za ops.size false))=s:=by
    unfold nO;have:(X8 its.length).filter (xd (Za ops.size false))=[]:=by
     rw[Zz];intro j _;simp[BH]
    rw[this];rfl
   rw[this];obtain⟨c,hc⟩:=hr;refine⟨c,hc.size,hc.defers,⟨hc.ext.os,hc.ext.tape,hc.ext.output,hc.ext.size,hc.ext.block⟩,hc.inv,hc.fresh,hc.mu,hc.new,hc.apart,fun t=>?_,fun k=>?_,hc.lent⟩
   ·have hk:Keep c.M w c.M {w with drawn:=w.drawn+1}:=⟨Xz _,fun _ _ _=>rfl,fun _ _ h=>h⟩;exact(hc.env t).keep c.le_refl hk
   ·have hk:Keep c.M w c.M {w with drawn:=w.drawn+1}:=⟨Xz _,fun _ _ _=>rfl,fun _ _ h=>h⟩;cases bp:s.heap k with
    |none=>have:=hc.chunk k;rw[bp]at this;cases this with|none h1 h2=>exact .none h1 h2
    |gone=>exact .gone
    |box T cells=>have:=hc.chunk k;rw[bp]at this;cases this with|box _ _ b vs hb hh hr h1=>exact .box T cells b vs hb hh (hr.keep c.le_refl hk) h1
    |row E sz g rows=>have:=hc.chunk k;rw[bp]at this;cases this with|row _ _ _ _ v xs hv bj hr cL h1 hg=>exact .row E sz g rows v xs hv (bj.same fun _ _=>rfl) (hr.keep c.le_refl hk) cL h1 hg
    |mp nB sB ents=>have:=hc.chunk k;rw[bp]at this;cases this with|mp _ _ _ b hb hh hn=>exact .mp nB sB ents b hb hh hn
    |it nB sB ents seen=>have:=hc.chunk k;rw[bp]at this;cases this with|it _ _ _ _ b bm hb hh hM hm=>exact .it nB sB ents seen b bm hb hh hM hm
  ·refine Yy (Ze _ _) ?_;simp
theorem a3F {p:Prop}(h:p:=by
 show c.M b'↔(c.M b'/\c.block k (s.heap k)≠some b')\/c.bl k=some b';rw[cz,hb];constructor
 ·intro hm;by_cases e:b=b'
  ·exact .inr (by rw[e])
  ·exact .inl ⟨hm,fun h=>e (XW.inj h)⟩
 ·rintro (⟨hm,_⟩|e)
  ·exact hm
  ·exact(h.mu b').2 (.inr ⟨k,by rw[cz];exact e⟩)):p:=h
theorem a4f {p:Prop}(h:p:=by
 simp only[Cx.block,if_true,XW.injEq];exact⟨fun h=>h.imp id Eq.symm,fun h=>h.imp id Eq.symm⟩):p:=h
theorem a4P {p:Prop}(h:p:=by
 simp only[Cx.block,if_true,XW.injEq]at hb;rw[size_alloc];omega):p:=h
theorem a5r {p:Prop}(h:p:=by
 refine .inr ⟨k,?_⟩;show c'.block k (cH [(k,ch)] s.heap k)=_;rw[dK,aj rfl];exact h1):p:=h
theorem a5u {p:Prop}(h:p:=by
 rw[af h1,cz k' _ h1]at hb;rw[af h2,cz k'' _ h2]at hb';exact h.apart k' k'' b hb hb'):p:=h
theorem a6b {p:Prop}(h:p:=by
 intro k' ch' bH;cases ch'<;>simp[Cx.block,sW k' bH,ep k' bH]):p:=h
theorem ChunkOK.keep {k:Nat}{c c':Cx}{w w':World}{ch:Chunk}(h:ChunkOK c w k ch)(hle:c.le c')(hk:Keep c.M w c'.M w')(hb:∀b,c.block k ch=some b->w'.heap[b]? =w.heap[b]?)
 (sW:c'.bl k=c.bl k) (ep:c'.ov k=c.ov k):ChunkOK c' w' k ch:=by
 cases h with
 |none h1 h2=>exact .none (by rw[sW];exact h1) (fun g=>by rw[ep];exact h2 g)
 |gone=>exact .gone
 |box T cells b vs cf hh hr h1=>exact .box T cells b vs (by rw[sW];exact cf) (by rw[hb b cf];exact hh) (hr.keep hle hk) h1
 |row E sz g rows v xs hv bj hr cL h1 hg=>
  exact .row E sz g rows v xs (by rw[ep];exact hv) (bj.same fun b e=>hb b (by simp[Cx.block,hv,e])) (hr.keep hle hk) cL h1 (by rw[ep];exact hg)
 |mp nB sB ents b cf hh hn=>exact .mp nB sB ents b (by rw[sW];exact cf) (by rw[hb b cf];exact hh) hn
 |it nB sB ents seen b bm cf hh hM hm=>
  have hlt:bm < w.heap.size:=(Yz.1 hm).1;exact .it nB sB ents seen b bm (by rw[sW];exact cf) (by rw[hb b cf];exact hh) (fun h=>hM (hk.mu _ hlt h)) (by rw[hk.block _ hlt hM];exact hm)
theorem RealC.lt {X:Cfg}{s:FS}{a:Act}{w:World}{c:Cx}(h:RealC X s a w c){b:Nat}(hb:c.M b):b < w.heap.size:=by
 rcases(h.mu b).1 hb with h0|⟨k,hk⟩
 ·exact Yx (h.fresh b h0).1 h.ext.size
 ·exact(h.new k b hk).2
theorem RealC.grow {X:Cfg}{s:FS}{a:Act}{w w':World}{c:Cx}(h:RealC X s a w c)(hx:cM w w'):RealC X s a w' c:=by
 have hk:Keep c.M w c.M w':=Keep.ext hx fun b hb=>h.lt hb;exact⟨h.size,h.defers,h.ext.trans (.of_ext hx),h.inv,h.fresh,h.mu,fun k b hb=>⟨(h.new k b hb).1,Yx (h.new k b hb).2 hx.size⟩,h.apart,fun t=>(h.env t).keep c.le_refl hk,
  fun k=>(h.chunk k).keep c.le_refl hk (fun b hb=>hx.block b (h.new k b hb).2) rfl rfl,h.lent⟩
theorem kk (w:World)(o:Obj):cM w (w.alloc o):=(Below.refl _ _).alloc (Xz _) o
theorem kN (w:World)(o:Obj):(w.alloc o).heap[w.heap.size]? =some o:=by
 show (w.heap.push o)[w.heap.size]? =some o;simp
theorem size_alloc (w:World)(o:Obj):(w.alloc o).heap.size=w.heap.size+1:=by
 show (w.heap.push o).size=_;simp
theorem tn (k:Nat)(c:Chunk)(h:Nat->Chunk):cH [(k,c)] h=fun k'=>if k'=k then c else h k':=rfl
theorem RealC.new_chunk {X:Cfg}{s:FS}{a:Act}{w w':World}{c c':Cx}(h:RealC X s a w c){k:Nat}{ch:Chunk}(hk:s.heap k= .none)(wY:¬k < X.m)(hx:cM w w')(hle:c.le c')(sW:∀k',k'≠k->c'.bl k'=c.bl k')(ep:∀k',k'≠k->c'.ov k'=c.ov k')
 (hM:∀b,c'.M b↔c.M b\/c'.block k ch=some b) (mJ:∀b,c'.block k ch=some b->w.heap.size<=b/\b < w'.heap.size)
 (U9:Keep c.M w c'.M w'->ChunkOK c' w' k ch):RealC X {s with heap:=cH [(k,ch)] s.heap} a w' c':=by
 have nu:Keep c.M w c'.M w':=⟨hx.size,fun b hb _=>hx.block b hb,fun b hb hm=>by
  rcases(hM b).1 hm with h1|h1
  ·exact h1
  ·have:=(mJ b h1).1;omega⟩
 have cz:∀k' ch',k'≠k->c'.block k' ch'=c.block k' ch':=a6b
 have dK:∀k',cH [(k,ch)] s.heap k'=if k'=k then ch else s.heap k':=fun _=>rfl;refine⟨h.size,h.defers,h.ext.trans (.of_ext hx),h.inv,h.fresh,fun b=>?_,fun k' b hb=>?_,fun k' k'' b hb hb'=>?_,fun t=>(h.env t).keep hle nu,fun k'=>?_,fun k' hk'=>⟨(sW k' (fun e=>wY (e ▸ hk'))).trans (h.lent k' hk').1,fun g v hv=>hle.ov _ _ _ ((h.lent k' hk').2 g v hv)⟩⟩
 ·rw[hM b,h.mu b];constructor
  ·rintro ((h0|⟨k',h1⟩)|h1)
   ·exact .inl h0
   ·refine .inr ⟨k',?_⟩;have bH:k'≠k:=fun e=>by subst e;rw[hk]at h1;simp[Cx.block]at h1
    show c'.block k' (cH [(k,ch)] s.heap k')=_;rw[dK,af bH,cz k' _ bH];exact h1
   ·exact a5r
  ·rintro (h0|⟨k',h1⟩)
   ·exact .inl (.inl h0)
   ·simp only[dK]at h1;by_cases bH:k'=k
    ·subst bH;rw[aj rfl]at h1;exact .inr h1
    ·rw[af bH,cz k' _ bH]at h1;exact .inl (.inr ⟨k',h1⟩)
 ·simp only[dK]at hb;by_cases bH:k'=k
  ·subst bH;rw[aj rfl]at hb;exact⟨.inr (Yy h.ext.size (mJ b hb).1),(mJ b hb).2⟩
  ·rw[af bH,cz k' _ bH]at hb;exact⟨(h.new k' b hb).1,Yx (h.new k' b hb).2 hx.size⟩
 ·simp only[dK]at hb hb';by_cases h1:k'=k
  ·by_cases h2:k''=k
   ·omega
   ·subst h1;rw[aj rfl]at hb;rw[af h2,cz k'' _ h2]at hb';have:=(mJ b hb).1;have:=(h.new k'' b hb').2;omega
  ·by_cases h2:k''=k
   ·subst h2;rw[aj rfl]at hb';rw[af h1,cz k' _ h1]at hb;have:=(mJ b hb').1;have:=(h.new k' b hb).2;omega
   ·exact a5u
 ·simp only[dK];by_cases bH:k'=k
  ·subst bH;rw[aj rfl];exact U9 nu
  ·rw[af bH];exact(h.chunk k').keep hle nu (fun b hb=>hx.block b (h.new k' b hb).2) (sW k' bH) (ep k' bH)
theorem RealC.new_box {X:Cfg}{s:FS}{a:Act}{w:World}{c:Cx}(h:RealC X s a w c){k:Nat}(hk:s.heap k= .none)(wY:¬k < X.m)(T:Nat)(cells:List PV)(vs:List Value)(hr:bI c w cells vs)(h1:∀d∈cells,d.one=true):
 ∃c',RealC X {s with heap:=cH [(k,.box T cells)] s.heap} a (w.alloc (.cells vs.toArray T)) c'/\RepP c' (w.alloc (.cells vs.toArray T)) (.ptr k 0) (.pointer (some ⟨w.heap.size,0,none⟩)):=by
 have bp:=h.chunk k;rw[hk]at bp;cases bp with
 |none Ax ho0=>
  have hx:=kk w (.cells vs.toArray T);have cf:(fun k'=>if k'=k then some w.heap.size else c.bl k') k=some w.heap.size:=aj rfl;refine⟨{M:=fun b=>c.M b\/b=w.heap.size,bl:=fun k'=>if k'=k then some w.heap.size else c.bl k',ov:=c.ov},?_,.ptr k 0 _ cf⟩;have hle:c.le {M:=fun b=>c.M b\/b=w.heap.size,bl:=fun k'=>if k'=k then some w.heap.size else c.bl k',ov:=c.ov}:=
   ⟨fun k' b hb=>by
    have:k'≠k:=fun e=>by subst e;rw[Ax]at hb;cases hb
    show (if k'=k then some w.heap.size else c.bl k')=some b;rw[af this];exact hb,fun _ _ _ h=>h⟩
  refine h.new_chunk hk wY hx hle (fun k' bH=>af bH) (fun _ _=>rfl) (fun b=>?_) (fun b hb=>?_) (fun nu=>?_)
  ·exact a4f
  ·exact a4P
  ·exact .box T cells w.heap.size vs cf (kN w _) (hr.keep hle nu) h1
theorem RealC.new_row {X:Cfg}{s:FS}{a:Act}{w w':World}{c:Cx}(h:RealC X s a w c){k:Nat}(hk:s.heap k= .none)(wY:¬k < X.m)(E sz:Nat)(rows:List (List PV))(v:Value)(xs:List Value)(hx:cM w w')
 (bj:OwnV w' E sz v rows.length xs) (kG:∀b,di v=some b->w.heap.size<=b) (hr:bI c w rows.flatten xs) (cL:∀r∈rows,r.length=sz) (h1:∀r∈rows,∀d∈r,d.one=true):
 ∃c',RealC X {s with heap:=cH [(k,.row E sz 0 rows)] s.heap} a w' c'/\RepP c' w' (.own k 0) v:=by
 have bp:=h.chunk k;rw[hk]at bp;have ry:v.oneCell'=true:=bj.one;cases bp with
 |none Ax ho0=>
  have bJ:(fun k' g=>if k'=k/\g=0 then some v else c.ov k' g) k 0=some v:=aj ⟨rfl,rfl⟩;have hle:c.le {M:=fun b=>c.M b\/di v=some b,bl:=c.bl,ov:=fun k' g=>if k'=k/\g=0 then some v else c.ov k' g}:=
   ⟨fun _ _ h=>h,fun k' g u hu=>by
    have:k'≠k:=fun e=>by subst e;rw[ho0]at hu;cases hu
    show (if k'=k/\g=0 then some v else c.ov k' g)=some u;rw[af (fun e=>this e.1)];exact hu⟩
  have cz:∀b,(Cx.block {M:=fun b=>c.M b\/di v=some b,bl:=c.bl,ov:=fun k' g=>if k'=k/\g=0 then some v else c.ov k' g} k (.row E sz 0 rows)=some b)↔di v=some b:=by
   intro b;simp[Cx.block]
  refine⟨{M:=fun b=>c.M b\/di v=some b,bl:=c.bl,ov:=fun k' g=>if k'=k/\g=0 then some v else c.ov k' g},?_,.own k 0 v bJ ry⟩;refine h.new_chunk hk wY hx hle (fun _ _=>rfl) (fun k' bH=>?_) (fun b=>?_) (fun b hb=>?_) (fun nu=>?_)
  ·funext g;exact af (fun e=>bH e.1)
  ·rw[cz b]
  ·rw[cz b]at hb;exact⟨kG b hb,bj.lt hb⟩
  ·refine .row E sz 0 rows v xs bJ bj (hr.keep hle nu) cL h1 (fun g' hg=>?_);show (if k=k/\g'=0 then some v else c.ov k g')=none;rw[af aa];exact ho0 g'
theorem RealC.turn {X:Cfg}{s:FS}{a:Act}{w w':World}{c c':Cx}(h:RealC X s a w c){k:Nat}{ch:Chunk}(hle:c.le c')(a1v:c'.bl k=c.bl k)(sW:∀k',k'≠k->c'.bl k'=c.bl k')(ep:∀k',k'≠k->c'.ov k'=c.ov k')
 (hos:w'.os=w.os) (ht:w'.tape=w.tape) (ho:w'.output=w.output) (hs:w.heap.size<=w'.heap.size) (JR:∀b,b < w.heap.size->c.block k (s.heap k)≠some b->w'.heap[b]? =w.heap[b]?)
 (hM:∀b,c'.M b↔(c.M b/\c.block k (s.heap k)≠some b)\/c'.block k ch=some b)
 (mJ:∀b,c'.block k ch=some b->(c.block k (s.heap k)=some b\/w.heap.size<=b)/\b < w'.heap.size)
 (U9:Keep c.M w c'.M w'->ChunkOK c' w' k ch):RealC X {s with heap:=cH [(k,ch)] s.heap} a w' c':=by
 have own:∀b,c.block k (s.heap k)=some b->c.M b:=fun b hb=>(h.mu b).2 (.inr ⟨k,hb⟩);have nu:Keep c.M w c'.M w':=⟨hs,fun b hb hm=>JR b hb (fun e=>hm (own b e)),fun b hb hm=>by
  rcases(hM b).1 hm with h1|h1
  ·exact h1.1
  ·rcases(mJ b h1).1 with h2|h2
   ·exact own b h2
   ·omega⟩
 have cz:∀k' ch',k'≠k->c'.block k' ch'=c.block k' ch':=a6b
 have dK:∀k',cH [(k,ch)] s.heap k'=if k'=k then ch else s.heap k':=fun _=>rfl;have oldNe:∀k' b,k'≠k->c.block k' (s.heap k')=some b->c.block k (s.heap k)≠some b:=fun k' b bH hb e=>bH (h.apart k' k b hb e);refine⟨h.size,h.defers,⟨hos.trans h.ext.os,ht.trans h.ext.tape,ho.trans h.ext.output,Yy h.ext.size hs,fun b hb EM=>?_⟩,h.inv,h.fresh,fun b=>?_,fun k' b hb=>?_,fun k' k'' b hb hb'=>?_,fun t=>(h.env t).keep hle nu,fun k'=>?_,fun k' hk'=>⟨?_,fun g v hv=>hle.ov _ _ _ ((h.lent k' hk').2 g v hv)⟩⟩
 ·refine(JR b (Yx hb h.ext.size) (fun e=>?_)).trans (h.ext.block b hb EM);rcases(h.new k b e).1 with h1|h1
  ·exact EM h1
  ·omega
 ·rw[hM b];constructor
  ·rintro (⟨h0,bH⟩|h1)
   ·rcases(h.mu b).1 h0 with h0|⟨k',h1⟩
    ·exact .inl h0
    ·refine .inr ⟨k',?_⟩;have jf:k'≠k:=fun e=>by subst e;exact bH h1
     show c'.block k' (cH [(k,ch)] s.heap k')=_;rw[dK,af jf,cz k' _ jf];exact h1
   ·exact a5r
  ·rintro (h0|⟨k',h1⟩)
   ·refine .inl ⟨(h.mu b).2 (.inl h0),fun e=>?_⟩;rcases(h.new k b e).1 with h1|h1
    ·exact(h.fresh b h0).2 h1
    ·have:=(h.fresh b h0).1;omega
   ·simp only[dK]at h1;by_cases bH:k'=k
    ·subst bH;rw[aj rfl]at h1;exact .inr h1
    ·rw[af bH,cz k' _ bH]at h1;exact .inl ⟨(h.mu b).2 (.inr ⟨k',h1⟩),oldNe k' b bH h1⟩
 ·simp only[dK]at hb;by_cases bH:k'=k
  ·subst bH;rw[aj rfl]at hb;refine⟨?_,(mJ b hb).2⟩;rcases(mJ b hb).1 with h2|h2
   ·exact(h.new _ b h2).1
   ·exact .inr (Yy h.ext.size h2)
  ·rw[af bH,cz k' _ bH]at hb;exact⟨(h.new k' b hb).1,Yx (h.new k' b hb).2 hs⟩
 ·simp only[dK]at hb hb';by_cases h1:k'=k
  ·by_cases h2:k''=k
   ·omega
   ·subst h1;rw[aj rfl]at hb;rw[af h2,cz k'' _ h2]at hb';rcases(mJ b hb).1 with h3|h3
    ·exact absurd h3 (oldNe k'' b h2 hb')
    ·have:=(h.new k'' b hb').2;omega
  ·by_cases h2:k''=k
   ·subst h2;rw[aj rfl]at hb';rw[af h1,cz k' _ h1]at hb;rcases(mJ b hb').1 with h3|h3
    ·exact absurd h3 (oldNe k' b h1 hb)
    ·have:=(h.new k' b hb).2;omega
   ·exact a5u
 ·simp only[dK];by_cases bH:k'=k
  ·subst bH;rw[aj rfl];exact U9 nu
  ·rw[af bH];exact(h.chunk k').keep hle nu (fun b hb=>JR b (h.new k' b hb).2 (oldNe k' b bH hb)) (sW k' bH) (ep k' bH)
 ·by_cases bH:k'=k
  ·subst bH;exact a1v.trans (h.lent k' hk').1
  ·exact(sW k' bH).trans (h.lent k' hk').1
theorem RealC.set_box {X:Cfg}{s:FS}{a:Act}{w:World}{c:Cx}(h:RealC X s a w c){k T b:Nat}{cells cells':List PV}{vs vs':List Value}(hk:s.heap k= .box T cells)(hb:c.bl k=some b)(hh:w.heap[b]? =some (.cells vs.toArray T (0,0)))
 (hr:bI c w cells' vs') (h1:∀d∈cells',d.one=true):RealC X {s with heap:=cH [(k,.box T cells')] s.heap} a (w.setRow b vs'.toArray) c:=by
 have cL:(w.setRow b vs'.toArray).heap.size=w.heap.size:=by simp[ZU]
 have bH:∀b',b'≠b->(w.setRow b vs'.toArray).heap[b']? =w.heap[b']? :=by
  intro b' hb';simp only[ZU,Y3];rw[af (fun e=>hb' e.symm)]
 have cz:c.block k (s.heap k)=some b:=by rw[hk];exact hb
 refine h.turn c.le_refl rfl (fun _ _=>rfl) (fun _ _=>rfl) rfl rfl rfl aa (fun b' _ hb'=>bH b' (fun e=>hb' (by rw[e];exact cz))) (fun b'=>?_) (fun b' hb'=>?_) (fun nu=>?_)
 ·exact a3F
 ·have e:c.bl k=some b':=hb';refine⟨.inl (by rw[cz,<-hb];exact e),?_⟩;rw[cL];exact(h.new k b' (by rw[cz,<-hb];exact e)).2
 ·exact .box T cells' b vs' hb (setRow_heap w b _ _ T _ hh) (hr.keep c.le_refl nu) h1
structure OneB (w w':World)(r:Option Nat):Prop where
 os:w'.os=w.os
 tape:w'.tape=w.tape
 output:w'.output=w.output
 size:w.heap.size<=w'.heap.size
 block:∀b,b < w.heap.size->r≠some b->w'.heap[b]? =w.heap[b]?
theorem RealC.set_row {X:Cfg}{s:FS}{a:Act}{w w':World}{c:Cx}(h:RealC X s a w c){k E sz g:Nat}{rows rows':List (List PV)}{v v':Value}{xs':List Value}(hk:s.heap k= .row E sz g rows)(hv:c.ov k g=some v)
 (hg:OneB w w' (di v)) (bj:OwnV w' E sz v' rows'.length xs') (kG:di v'=di v\/∀b,di v'=some b->w.heap.size<=b) (hr:bI c w rows'.flatten xs') (cL:∀r∈rows',r.length=sz)
 (h1:∀r∈rows',∀d∈r,d.one=true):
 ∃c',RealC X {s with heap:=cH [(k,.row E sz (g+1) rows')] s.heap} a w' c'/\RepP c' w' (.own k (g+1)) v':=by
 have bp:=h.chunk k;rw[hk]at bp;have ry:v'.oneCell'=true:=bj.one;cases bp with
 |row _ _ _ _ u xs hu a1w hro a2x h1o SX=>
  rw[hv]at hu;cases hu;have cz:c.block k (s.heap k)=di v:=by rw[hk];simp[Cx.block,hv]
  have bJ:(fun k' g'=>if k'=k/\g'=g+1 then some v' else c.ov k' g') k (g+1)=some v':=aj ⟨rfl,rfl⟩;have hle:c.le {M:=fun b=>(c.M b/\di v≠some b)\/di v'=some b,bl:=c.bl,ov:=fun k' g'=>if k'=k/\g'=g+1 then some v' else c.ov k' g'}:=
   ⟨fun _ _ h=>h,fun k' g' u hu=>by
    have:¬(k'=k/\g'=g+1):=by
     rintro⟨rfl,rfl⟩;rw[SX (g+1) aa]at hu;cases hu
    show (if k'=k/\g'=g+1 then some v' else c.ov k' g')=some u;rw[af this];exact hu⟩
  have HG:∀b,(Cx.block {M:=fun b=>(c.M b/\di v≠some b)\/di v'=some b,bl:=c.bl,ov:=fun k' g'=>if k'=k/\g'=g+1 then some v' else c.ov k' g'} k (.row E sz (g+1) rows')=some b)↔di v'=some b:=by
   intro b;simp[Cx.block]
  refine⟨{M:=fun b=>(c.M b/\di v≠some b)\/di v'=some b,bl:=c.bl,ov:=fun k' g'=>if k'=k/\g'=g+1 then some v' else c.ov k' g'},?_,.own k (g+1) v' bJ ry⟩;refine h.turn hle rfl (fun _ _=>rfl) (fun k' bH=>?_) hg.os hg.tape hg.output hg.size (fun b hb bH=>hg.block b hb (fun e=>bH (by rw[cz];exact e))) (fun b=>?_) (fun b hb=>?_) (fun nu=>?_)
  ·funext g';exact af (fun e=>bH e.1)
  ·rw[HG,cz]
  ·rw[HG]at hb;refine⟨?_,bj.lt hb⟩;rw[cz];rcases kG with e|e
   ·exact .inl (e ▸ hb)
   ·exact .inr (e b hb)
  ·refine .row E sz (g+1) rows' v' xs' bJ bj (hr.keep hle nu) cL h1 (fun g' hg'=>?_);show (if k=k/\g'=g+1 then some v' else c.ov k g')=none;rw[af aa];exact SX g' aa
theorem RealC.put_row {X:Cfg}{s:FS}{a:Act}{w w':World}{c:Cx}(h:RealC X s a w c){k E sz g:Nat}{rows rows':List (List PV)}{v:Value}{xs':List Value}(hk:s.heap k= .row E sz g rows)(hv:c.ov k g=some v)
 (hg:OneB w w' (di v)) (bj:OwnV w' E sz v rows'.length xs') (hr:bI c w rows'.flatten xs') (cL:∀r∈rows',r.length=sz) (h1:∀r∈rows',∀d∈r,d.one=true):
 RealC X {s with heap:=cH [(k,.row E sz g rows')] s.heap} a w' c:=by
 have bp:=h.chunk k;rw[hk]at bp;cases bp with
 |row _ _ _ _ u xs hu a1w hro a2x h1o SX=>
  rw[hv]at hu;cases hu;have cz:c.block k (s.heap k)=di v:=by rw[hk];simp[Cx.block,hv]
  have HG:c.block k (.row E sz g rows')=di v:=by simp[Cx.block,hv]
  refine h.turn c.le_refl rfl (fun _ _=>rfl) (fun k' bH=>rfl) hg.os hg.tape hg.output hg.size (fun b hb bH=>hg.block b hb (fun e=>bH (by rw[cz];exact e))) (fun b=>?_) (fun b hb=>?_) (fun nu=>?_)
  ·rw[HG,cz];constructor
   ·intro hm;by_cases e:di v=some b
    ·exact .inr e
    ·exact .inl ⟨hm,e⟩
   ·rintro (⟨hm,_⟩|e)
    ·exact hm
    ·exact(h.mu b).2 (.inr ⟨k,by rw[cz];exact e⟩)
  ·rw[HG]at hb;exact⟨.inl (by rw[cz];exact hb),bj.lt hb⟩
  ·exact .row E sz g rows' v xs' hv bj (hr.keep c.le_refl nu) cL h1 SX
structure TI where
 agg:Bool:=false
 size:Nat:=1
 bytes:Nat:=8
 zero:List Value
 fields:List (Nat × Nat):=[]
 elem:Option Nat:=none
 int:Option IntKind:=none
 kind:Nat:=0
 mp:Option (Nat × Bool):=none
 arr:Option (Nat × Nat):=none
def nP (P:Program)(fs:List Field):Option (List (Nat × Nat)):=fs.mapM fun f=>(P.info? f.type).map fun i=>(f.offset,i.size)
def tq (P:Program):TypeDesc->List (Nat × Nat)
 | .struct fs=>(nP P fs.toList).getD []
 |_=>[]
def Tf:TypeDesc->Bool
 | .struct _=>true
 | .array _ _=>true
 |_=>false
def hO:TypeDesc->Option Nat
 | .slice e=>some e
 |_=>none
def OX:TypeDesc->Option (Nat × Nat)
 | .array n e=>some (n,e)
 |_=>none
def Th:TypeDesc->Option IntKind
 | .int k=>some k
 |_=>none
def rF:TypeDesc->Nat
 | .bool=>1
 | .string=>2
 | .pointer _=>3
 | .map _ _=>4
 | .interface _=>5
 |_=>0
def mpD (P:Program):TypeDesc->Option (Nat × Bool)
 | .map k e=>match P.underlying k,P.info? k,P.underlying e with
  |some (.int .i64),_,some (.int .i64)=>some (1,false)
  |some (.struct _),some i,some (.int .i64)=>some (i.size,true)
  |_,_,_=>none
 |_=>none
def aW (P:Program)(t:Nat):Option TI:=
 match P.info? t,P.underlying t with
 |some i,some d=>
  match i.zero with
  |some z=>
   if z.cells.all (·.oneCell')&&(z.cells.size==i.size)then
    some {agg:=Tf d,size:=i.size,bytes:=i.bytes,zero:=z.cells.toList,fields:=tq P d,elem:=hO d,int:=Th d,kind:=rF d,mp:=mpD P d,arr:=OX d}
   else none
  |none=>none
 |_,_=>none
structure TCk (P:Program)(t:Nat)(ti:TI)(i:TypeInfo)(d:TypeDesc)(z:Value):Prop where
 info:P.info? t=some i
 und:P.underlying t=some d
 zero:i.zero=some z
 zcells:z.cells.toList=ti.zero
 one:∀x∈ti.zero,x.oneCell'=true
 zsize:ti.zero.length=ti.size
 size:i.size=ti.size
 bytes:i.bytes=ti.bytes
 agg:Tf d=ti.agg
 elem:hO d=ti.elem
 int:Th d=ti.int
 kind:rF d=ti.kind
 mp:mpD P d=ti.mp
 arr:OX d=ti.arr
 fields:tq P d=ti.fields
theorem jg {P:Program}{t:Nat}{ti:TI}(h:aW P t=some ti):∃i d z,TCk P t ti i d z:=by
 unfold aW at h;split at h
 ·rename_i i d hi hd;split at h
  ·rename_i z hz;split at h
   ·rename_i hc;simp only[Xt,beq_iff_eq]at hc;cases h;refine⟨i,d,z,hi,hd,hz,rfl,fun x hx=>?_,?_,rfl,rfl,rfl,rfl,rfl,rfl,rfl,rfl,rfl⟩
    ·exact(Array.all_eq_true_iff_forall_mem.1 hc.1) x (by simpa using hx)
    ·simpa using hc.2
   ·cases h
  ·cases h
 ·cases h
theorem BI {P:Program}{off sz:Nat}:∀{l:List Field}{pl:List (Nat × Nat)},nP P l=some pl->∀{f:Nat},pl[f]? =some (off,sz)->∃(g:Field) (j:TypeInfo),l[f]? =some g/\P.info? g.type=some j/\g.offset=off/\j.size=sz
 |[],pl,h,f,hf=>by simp[nP]at h;subst h;simp at hf
 |g::l,pl,h,f,hf=>by
  simp only[nP,List.mapM_cons,Option.bind_eq_bind,Option.pure_def]at h;cases hi:P.info? g.type with
  |none=>simp[hi]at h
  |some i=>
   cases hr:l.mapM (fun f=>(P.info? f.type).map fun i=>(f.offset,i.size))with
   |none=>simp[hi,hr]at h
   |some rest=>
    simp[hi,hr]at h;subst h;cases f with
    |zero=>simp at hf;exact⟨g,i,rfl,hi,hf.1,hf.2⟩
    |succ f=>simpa using BI (l:=l) hr (f:=f) (by simpa using hf)
theorem TCk.field {P:Program}{t:Nat}{ti:TI}{i:TypeInfo}{d:TypeDesc}{z:Value}(h:TCk P t ti i d z){f off sz:Nat}(hf:ti.fields[f]? =some (off,sz)):
 ∃(fs:Array Field) (g:Field) (j:TypeInfo),d= .struct fs/\nP P fs.toList=some ti.fields/\fs[f]? =some g/\P.info? g.type=some j/\g.offset=off/\j.size=sz:=by
 have gX:=h.fields;cases d with
 |struct fs=>
  simp only[tq]at gX;cases hm:nP P fs.toList with
  |none=>rw[hm]at gX;simp at gX;rw[gX]at hf;simp at hf
  |some pl=>
   rw[hm]at gX;simp at gX;subst gX;obtain⟨g,j,q1,q2⟩:=BI hm hf;exact⟨fs,g,j,rfl,hm,by simpa using q1,q2⟩
 |_=>simp[tq]at gX;rw[gX]at hf;simp at hf
def ev (s:FS):Operand->PV
 | .tmp t=>s.env t
 | .const v=> .d (.v v)
 | .func f=> .d (.clo f [])
 | .global _=> .any
theorem bR {X:Cfg}{s:FS}{a:Act}{w:World}{c:Cx}(h:RealC X s a w c)(x:Operand):RepP c w (ev s x) (a.eval x):=by
 cases x with
 |tmp t=>exact h.env t
 |const v=>exact .d _ _ (.v v)
 |func f=>exact .d _ _ (.clo f [] [] rfl (fun j d x h=>by simp at h))
 |«global» g=>exact .any _
theorem Do {ops:Array Oper}{o:Oper}{s s':FS}(he:∀t∈o.looksAt ops,s'.env t=s.env t)(x:Operand)(hx:x∈o.op.operands):ev s' x=ev s x:=by
 cases x with
 |tmp t=>
  refine he t ?_;unfold Oper.looksAt;refine N' _ ?_;rw[List.mem_filterMap];exact⟨.tmp t,by simpa using hx,rfl⟩
 |_=>rfl
theorem en {X:Cfg}{ops:Array Oper}{s:FS}{o:Oper}{r:Res}(hd:∀d,o.dst=some d->d < X.n)(ht:∀kc∈r.eff,kc.1∈r.touch)
 (h:∀s':FS,(∀x∈o.op.operands,ev s' x=ev s x)->(∀k∈r.touch,s'.heap k=s.heap k)->∀a w c,RealC X s' a w c->
  ∃n v w',(execOp a.eval o).run X.P w= .ok n w'/\(n= .value v\/(n= .skip/\v=undef))/\∃c',RealC X {s' with heap:=cH r.eff s'.heap} a w' c'/\RepP c' w' r.pv v):bO X ops s o r:=by
 refine⟨hd,ht,fun s' he hk a w hr K Q hK=>?_⟩;obtain⟨c,hc⟩:=hr;obtain⟨n,v,w',cr,hn,c',hc',hp⟩:=h s' (fun x hx=>Do he x hx) hk a w c hc;have:=hK v w' ⟨c',hc'.put hp hd⟩;unfold Oper.wp;rw[cr];rcases hn with rfl|⟨rfl,rfl⟩
 ·exact this
 ·exact this
theorem aN {X:Cfg}{ops:Array Oper}{s:FS}{o:Oper}{p:PV}{touch:List Nat}(hd:∀d,o.dst=some d->d < X.n)
 (h:∀s':FS,(∀x∈o.op.operands,ev s' x=ev s x)->(∀k∈touch,s'.heap k=s.heap k)->∀a w c,RealC X s' a w c->∃v,(execOp a.eval o).run X.P w= .ok (.value v) w/\RepP c w p v):
 bO X ops s o {pv:=p,touch:=touch}:=
 en hd (fun _ h=>by simp at h) fun s' he hk a w c hc=>by
  obtain⟨v,cr,hp⟩:=h s' he hk a w c hc;exact⟨.value v,v,w,cr,.inl rfl,c,hc,hp⟩
section
variable {X:Cfg}{ops:Array Oper}{s:FS}{o:Oper}(hd:∀d,o.dst=some d->d < X.n)
include hd
theorem Ti {x:Operand}(ho:o.op= .move x):bO X ops s o {pv:=ev s x}:=
 aN hd fun s' he _ a w c hc=>⟨a.eval x,by simp[execOp,ho],by rw[<-he x (by simp[ho,Op.operands])];exact bR hc x⟩
theorem LY {x:Operand}(ho:o.op= .assign x):bO X ops s o {pv:=ev s x}:=
 aN hd fun s' he _ a w c hc=>⟨a.eval x,by simp[execOp,ho],by rw[<-he x (by simp[ho,Op.operands])];exact bR hc x⟩
omit hd in
theorem dt {s':FS}{a:Act}{w:World}{c:Cx}(hc:RealC X s' a w c){x:Operand}{v:Value}(h:ev s' x= .d (.v v)):a.eval x=v:=by
 have:=bR hc x;rw[h]at this;cases this with
 |d _ _ h=>cases h with|v=>rfl
theorem Tj {x y z:Operand}{t:Bool}(ho:o.op= .pick x y z)(hx:ev s x= .d (.v (.bool t))):bO X ops s o {pv:=if t then ev s y else ev s z}:=
 aN hd fun s' he _ a w c hc=>by
  have h1:=dt hc ((he x (by simp[ho,Op.operands])).trans hx);refine⟨if t then a.eval y else a.eval z,by simp[execOp,ho,h1,asBool],?_⟩;cases t with
  |true=>rw[aj rfl,aj rfl,<-he y (by simp[ho,Op.operands])];exact bR hc y
  |false=>rw[af ah,af ah,<-he z (by simp[ho,Op.operands])];exact bR hc z
theorem Wc {t:Nat}{x:Operand}{b:Bool}(ho:o.op= .unOp .not t x)(hx:ev s x= .d (.v (.bool b))):bO X ops s o {pv:= .d (.v (.bool (!b)))}:=
 aN hd fun s' he _ a w c hc=>by
  have h1:=dt hc ((he x (by simp[ho,Op.operands])).trans hx);exact⟨.bool (!b),by simp[execOp,ho,h1,Op.unary],.d _ _ (.v _)⟩
theorem Wd {t:Nat}{x:Operand}{k:IntKind}{n:Int}(ho:o.op= .unOp .neg t x)(hx:ev s x= .d (.v (.int k n))):bO X ops s o {pv:= .d (.v (.int k (k.wrap (0 - n))))}:=
 aN hd fun s' he _ a w c hc=>by
  have h1:=dt hc ((he x (by simp[ho,Op.operands])).trans hx);exact⟨.int k (k.wrap (0 - n)),by simp[execOp,ho,h1,Op.unary,Op.intArith],.d _ _ (.v _)⟩
theorem wu {x:Operand}(ho:o.op= .nilCheck x)(hx:(∃k off,ev s x= .ptr k off)\/∃cs,ev s x= .d (.ept cs)):bO X ops s o {pv:=ev s x}:=
 aN hd fun s' he _ a w c hc=>by
  have h0:=he x (by simp[ho,Op.operands]);have h1:=bR hc x;refine⟨a.eval x,?_,by rw[<-h0];exact h1⟩;have:∃ad,a.eval x= .pointer (some ad):=by
   rcases hx with⟨k,off,hx⟩|⟨cs,hx⟩
   ·rw[h0,hx]at h1;generalize a.eval x=u at h1;cases h1;exact⟨_,rfl⟩
   ·rw[h0,hx]at h1;generalize a.eval x=u at h1;cases h1 with
    |d _ _ h=>cases h;exact⟨_,rfl⟩
  obtain⟨ad,h2⟩:=this;simp[execOp,ho,h2]
def Dp (op:BinOp)(k:IntKind)(a b:Int):Option Value:=
 match op with
 | .add=>some (.int k (k.wrap (a+b)))
 | .sub=>some (.int k (k.wrap (a - b)))
 | .mul=>some (.int k (k.wrap (a*b)))
 | .eql=>some (.bool (a==b))
 | .neq=>some (.bool (a !=b))
 | .lss=>some (.bool (decide (a < b)))
 | .leq=>some (.bool (decide (a<=b)))
 | .gtr=>some (.bool (decide (a>b)))
 | .geq=>some (.bool (decide (a>=b)))
 | .shl=>if 0<=b then some (.int k (k.wrap (a*2 ^ min b.toNat k.bits)))else none
 | .shr=>if 0<=b then some (.int k (a.fdiv (2 ^ min b.toNat k.bits)))else none
 | .and=>some (.int k (k.wrap (BitVec.ofInt k.bits a&&& BitVec.ofInt k.bits b).toNat))
 | .or=>some (.int k (k.wrap (BitVec.ofInt k.bits a|||BitVec.ofInt k.bits b).toNat))
 | .andNot=>some (.int k (k.wrap (BitVec.ofInt k.bits a&&& ~~~BitVec.ofInt k.bits b).toNat))
 |_=>none
theorem We {op:BinOp}{t t':Nat}{x y:Operand}{k:IntKind}{m n:Int}{r:Value}(ho:o.op= .binOp op t x y t')(hx:ev s x= .d (.v (.int k m)))(hy:ev s y= .d (.v (.int k n)))(hr:Dp op k m n=some r):
 bO X ops s o {pv:= .d (.v r)}:=
 aN hd fun s' he _ a w c hc=>by
  have h1:=dt hc ((he x (by simp[ho,Op.operands])).trans hx);have h2:=dt hc ((he y (by simp[ho,Op.operands])).trans hy);refine⟨r,?_,.d _ _ (.v _)⟩;cases op<;>simp[Dp]at hr
  case shl=>obtain⟨h0,rfl⟩:=hr;simp[execOp,ho,h1,h2,eqGuard,binOp,Op.shift,Int.not_lt.2 h0]
  case shr=>obtain⟨h0,rfl⟩:=hr;simp[execOp,ho,h1,h2,eqGuard,binOp,Op.shift,Int.not_lt.2 h0]
  all_goals(subst hr;simp[execOp,ho,h1,h2,eqGuard,binOp,Op.intArith,Op.intCmp,Op.intBits])
theorem BJ {op:BinOp}{t t':Nat}{x y:Operand}{k:IntKind}{m n:Int}(ho:o.op= .binOp op t x y t')(hx:ev s x= .d (.v (.int k m)))(hy:ev s y= .d (.v (.int k n)))(hn:n≠0){r:Value}
 (hr:(op= .quo/\r= .int k (k.wrap (m.tdiv n)))\/(op= .rem/\r= .int k (m.tmod n))):bO X ops s o {pv:= .d (.v r)}:=
 aN hd fun s' he _ a w c hc=>by
  have h1:=dt hc ((he x (by simp[ho,Op.operands])).trans hx);have h2:=dt hc ((he y (by simp[ho,Op.operands])).trans hy);refine⟨r,?_,.d _ _ (.v _)⟩;rcases hr with⟨rfl,rfl⟩|⟨rfl,rfl⟩<;>simp[execOp,ho,h1,h2,eqGuard,binOp,Op.intDiv,hn]
omit hd in
theorem yi {P:Program}{t:Nat}(h:P.underlying t=some .bool)(m n:Bool)(w:World):(Op.equal t (.bool m) (.bool n)).run P w= .ok (m==n) w:=by
 unfold Op.equal;show (Op.equalIn (9999+1) t (.bool m) (.bool n)).run P w=_;rw[Op.equalIn,Sem.run_bind,run_underlying h];rfl
theorem BK {ti:TI}{op:BinOp}{t t':Nat}{x y:Operand}{m n:Bool}{r:Bool}(ho:o.op= .binOp op t x y t')(ht:aW X.P t=some ti)(hb:ti.kind=1)(hx:ev s x= .d (.v (.bool m)))(hy:ev s y= .d (.v (.bool n)))(hr:(op= .eql/\r=(m==n))\/(op= .neq/\r=(m !=n))):
 bO X ops s o {pv:= .d (.v (.bool r))}:=
 aN hd fun s' he _ a w c hc=>by
  have h1:=dt hc ((he x (by simp[ho,Op.operands])).trans hx);have h2:=dt hc ((he y (by simp[ho,Op.operands])).trans hy);obtain⟨i,d,z,tk⟩:=jg ht;have hd':d= .bool:=by
   have:=tk.kind;rw[hb]at this;cases d<;>simp[rF]at this;rfl
  subst hd';refine⟨.bool r,?_,.d _ _ (.v _)⟩;rcases hr with⟨rfl,rfl⟩|⟨rfl,rfl⟩<;>simp[execOp,ho,h1,h2,eqGuard,binOp,yi tk.und,bne]
def E3 (P:Program)(t n:Nat):Prop:=∀(w:World) (xs ys:List Int) (x y:Operand) (op:BinOp),xs.length=n->ys.length=n->op= .eql\/op= .neq->
 (do eqGuard op t x y (.agg (xs.map (Value.int .i64)).toArray) (.agg (ys.map (Value.int .i64)).toArray);binOp op t (.agg (xs.map (Value.int .i64)).toArray) (.agg (ys.map (Value.int .i64)).toArray):Sem Value).run P w= .ok (.bool (if op= .eql then xs==ys else xs !=ys)) w
def rG:List D->Option (List Int)
 |[]=>some []
 | .v (.int .i64 n)::l=>(rG l).map (n:: ·)
 |_=>none
omit hd in
theorem tr {M:Nat->Prop}{w:World}:∀{ds:List D}{vs:List Value}{xs:List Int},eE M w ds vs->rG ds=some xs->vs=xs.map (Value.int .i64)
 |[],[],xs,_,h=>by cases h;rfl
 |[],_::_,xs,h,_=>by have:=h.1;simp at this
 |d::ds,[],xs,h,_=>by have:=h.1;simp at this
 |d::ds,v::vs,xs,h,hx=>by
  have h0:=h.2 0 d v rfl rfl;have hr:eE M w ds vs:=⟨by simpa using h.1,fun j a b h1 h2=>h.2 (j+1) a b (by simpa using h1) (by simpa using h2)⟩;unfold rG at hx;split at hx
  ·rename_i heq;cases heq
  ·rename_i n l heq;cases heq;cases h0;cases hl:rG ds with
   |none=>rw[hl]at hx;cases hx
   |some ys=>
    rw[hl]at hx;cases hx;rw[tr hr hl];rfl
  ·cases hx
theorem E4 {op:BinOp}{t t' n:Nat}{x y:Operand}{ds es:List D}{xs ys:List Int}(ho:o.op= .binOp op t x y t')(hq:E3 X.P t n)(mP:op= .eql\/op= .neq)(hx:ev s x= .d (.agg ds))(hy:ev s y= .d (.agg es))
 (h1:rG ds=some xs) (h2:rG es=some ys) (h3:xs.length=n) (h4:ys.length=n):bO X ops s o {pv:= .d (.v (.bool (if op= .eql then xs==ys else xs !=ys)))}:=
 aN hd fun s' he _ a w c hc=>by
  have e1:=bR hc x;have e2:=bR hc y;rw[he x (by simp[ho,Op.operands]),hx]at e1;rw[he y (by simp[ho,Op.operands]),hy]at e2;refine⟨_,?_,.d _ _ (.v _)⟩;generalize hu:a.eval x=u at e1;generalize hv:a.eval y=v at e2;cases e1 with
  |d _ _ e1=>
   cases e2 with
   |d _ _ e2=>
    cases e1 with
    |agg _ vs hl _ bC=>
     cases e2 with
     |agg _ vs' hl' _ qE=>
      have g1:=tr (xs:=xs) ⟨hl,bC⟩ h1;have g2:=tr (xs:=ys) ⟨hl',qE⟩ h2;subst g1;subst g2;have:=hq w xs ys x y op h3 h4 mP;simp only[execOp,ho,hu,hv];rw[Sem.run_bind,this];rfl
theorem OY {t f off sz:Nat}{x:Operand}{ds:List D}{ti:TI}(ho:o.op= .fieldAddr t x f)(ht:aW X.P t=some ti)(hf:ti.fields[f]? =some (off,sz))(hs:sz≠0)(hx:ev s x= .d (.ept ds)):
 bO X ops s o {pv:= .d (.ept (ds.drop off))}:=
 aN hd fun s' he _ a w c hc=>by
  have e1:=bR hc x;rw[he x (by simp[ho,Op.operands]),hx]at e1;generalize hu:a.eval x=u at e1;cases e1 with
  |d _ _ e1=>
   cases e1 with
   |ept _ b o' fv hM hb h1 ck bC=>
    have cr:((execOp a.eval o).run X.P w)= .ok (.value (.pointer (some ⟨b,o'+off,none⟩))) w:=by
     obtain⟨i,d,z,tk⟩:=jg ht;obtain⟨fs,g,j,rfl,-,q1,q2,q3,q4⟩:=tk.field hf;have SY:j.size≠0:=aa;simp[execOp,ho,hu,Instr.fieldAt,run_underlying tk.und,q1,Instr.sureAddr,fieldPlace,sizeOf,typeInfo,q2,SY,q3,Addr.add_lit]
    refine⟨_,cr,.d _ _ (.ept _ b (o'+off) (fun j=>fv (off+j)) hM hb (fun d hd=>h1 d (Yc hd)) (fun j hj=>?_) (fun j d hj=>?_))⟩
    ·rw[Zh];exact ck (off+j) (by rw[XS]at hj;omega)
    ·exact bC (off+j) d (by rwa [Yl]at hj)
end
theorem a4s {p:Prop}(h:p:=by
 intro x hx;obtain⟨j,hj,e⟩:=Ya hx;have hj':j < ds.length:=by rw[h.1];exact hj
 exact(h.2 j ds[j] x (Xk hj') (by rw[<-e];exact Xk hj)).one (h1 _ (Ye hj'))):p:=h
def aB {α:Type}(l:List α)(off:Nat)(xs:List α):List α:=l.take off++xs++l.drop (off+xs.length)
theorem jn {α:Type}{l xs:List α}{off:Nat}(h:off+xs.length<=l.length)(k:Nat):(aB l off xs)[k]? =if off<=k/\k < off+xs.length then xs[k - off]? else l[k]? :=by
 unfold aB;have h1:(l.take off).length=off:=by rw[Xp];omega
 by_cases hk:k < off
 ·rw[XV,X5 aa,af aa,XP hk]
 ·by_cases jV:k < off+xs.length
  ·rw[XV,XH aa,h1,X5 aa,aj aa]
  ·rw[XH (by rw[Xv,h1];omega),Xv,h1,Yl,af aa];congr 1;omega
theorem bw {α:Type}{l xs:List α}{off:Nat}(h:off+xs.length<=l.length):(aB l off xs).length=l.length:=by
 simp only[aB,Xv,Xp,XS];omega
def qM (off:Nat)(l:List Value)(i:Nat)(cs:Array Value):Array Value:=(l.zipIdx i).foldl (fun cs (c,j)=>cs.setIfInBounds (off+j) c) cs
theorem wv (off:Nat):∀(l:List Value) (i:Nat) (cs:Array Value) (k:Nat),off+i+l.length<=cs.size->(qM off l i cs)[k]? =if off+i<=k/\k < off+i+l.length then l[k - (off+i)]? else cs[k]?
 |[],i,cs,k,_=>by rw[af ah];rfl
 |v::l,i,cs,k,h=>by
  have h':off+i < cs.size:=by simp at h;omega
  have:=wv off l (i+1) (cs.setIfInBounds (off+i) v) k (by simp at h ⊢;omega);have e:qM off (v::l) i cs=qM off l (i+1) (cs.setIfInBounds (off+i) v):=by simp[qM,List.zipIdx_cons]
  rw[e,this];by_cases hk:k=off+i
  ·subst hk;rw[af aa,aj ⟨Xz _,by simp⟩];simp[h']
  ·rw[_q (fun e=>hk e.symm)];by_cases jV:off+(i+1)<=k/\k < off+(i+1)+l.length
   ·rw[aj jV,aj ⟨by omega,by simp;omega⟩];rw[show k - (off+i)=(k - (off+(i+1)))+1 by omega,Yw]
   ·rw[af jV,af aK]
theorem Dq (off:Nat)(l:List Value)(cs:Array Value)(h:off+l.length<=cs.size):(qM off l 0 cs).toList=aB cs.toList off l:=by
 apply Yj;intro k;rw[jn (by simpa using h),X6,wv off l 0 cs k (by simpa using h)];simp
theorem BL (place:Nat->Option (Nat × Nat))(cells:Array Value)(i off size:Nat)(v:Value)(rest:List (Nat × Value))(hp:place i=some (off,size))(hs:v.cells.size=size)(ho:off+size<=cells.size):
 Instr.fill place cells ((i,v)::rest)=Instr.fill place (aB cells.toList off v.cells.toList).toArray rest:=by
 have e:(v.cells.zipIdx.foldl (fun cs (c,j)=>cs.setIfInBounds (off+j) c) cells)=(aB cells.toList off v.cells.toList).toArray:=by
  have h1:=Dq off v.cells.toList cells aK;rw[<-h1,Array.toArray_toList];unfold qM;rw[<-Array.foldl_toList,Array.toList_zipIdx]
 rw[Instr.fill];simp only[hp];rw[af (by simp[hs];omega),e]
def cX:PV->List PV
 | .d (.agg ds)=>ds.map .d
 | .agg ps=>ps
 |p=>[p]
def BM:PV->Bool
 | .d (.agg _)=>true
 | .agg _=>true
 |p=>p.one
theorem bI.one {c:Cx}{w:World}{ds:List PV}{vs:List Value}(h:bI c w ds vs)(h1:∀d∈ds,d.one=true):∀x∈vs,x.oneCell'=true:=a4s
theorem eE.one {M:Nat->Prop}{w:World}{ds:List D}{vs:List Value}(h:eE M w ds vs)(h1:∀d∈ds,d.one=true):∀x∈vs,x.oneCell'=true:=a4s
theorem LZ {v:Value}(h:v.oneCell'=true):v.cells=#[v]:=by
 cases v<;>first|rfl|cases h
theorem lT {c:Cx}{w:World}{p:PV}{v:Value}(h:RepP c w p v)(bJ:BM p=true):bI c w (cX p) v.cells.toList/\∀d∈cX p,d.one=true:=by
 have single:p.one=true->cX p=[p]->bI c w (cX p) v.cells.toList/\∀d∈cX p,d.one=true:=by
  intro h1 e;rw[e,LZ (h.one h1)];refine⟨⟨rfl,fun j d x hj hx=>?_⟩,fun d hd=>by simp at hd;subst hd;exact h1⟩;cases j with
  |zero=>simp at hj hx;subst hj;subst hx;exact h
  |succ j=>simp at hj
 cases p with
 |d x=>
  cases x with
  |agg ds=>
   cases h with
   |d _ _ h=>
    cases h with
    |agg _ vs hl h1 bC=>
     refine⟨⟨by simpa[cX,Value.cells]using hl,fun j d x hj hx=>?_⟩,fun d hd=>?_⟩
     ·simp only[cX,Xy,XJ]at hj;obtain⟨y,hy,rfl⟩:=hj;exact .d _ _ (bC j y x hy (by simpa[Value.cells]using hx))
     ·simp only[cX,XN]at hd;obtain⟨y,hy,rfl⟩:=hd;exact h1 y hy
  |tup ds=>simp[BM,PV.one,D.one]at bJ
  |_=>exact single bJ rfl
 |any=>simp[BM,PV.one]at bJ
 |tup=>simp[BM,PV.one]at bJ
 |agg ps=>
  cases h with
  |agg _ vs hl h1 bC=>exact⟨⟨by simpa[cX,Value.cells]using hl,fun j d x hj hx=>bC j d x hj (by simpa[Value.cells]using hx)⟩,h1⟩
 |_=>exact single bJ rfl
theorem nQ {c:Cx}{w:World}{ds es:List PV}{vs us:List Value}{off:Nat}(h:bI c w ds vs)(g:bI c w es us)(ho:off+es.length<=ds.length):bI c w (aB ds off es) (aB vs off us):=by
 have ho':off+us.length<=vs.length:=by rw[<-g.1,<-h.1];exact ho
 refine⟨by rw[bw ho,bw ho',h.1],fun j d x hj hx=>?_⟩;rw[jn ho]at hj;rw[jn ho',<-g.1]at hx;by_cases hc:off<=j/\j < off+es.length
 ·rw[aj hc]at hj hx;exact g.2 _ d x hj hx
 ·rw[af hc]at hj hx;exact h.2 _ d x hj hx
theorem lU {α:Type}{l xs:List α}{off:Nat}{d:α}(h:d∈aB l off xs):d∈l\/d∈xs:=by
 simp only[aB,X0]at h;rcases h with (h|h)|h
 ·exact .inl (Yd h)
 ·exact .inr h
 ·exact .inl (Yc h)
theorem J8 {M:Nat->Prop}{w:World}(vs:List Value):eE M w (vs.map .v) vs:=⟨by simp,fun j d x hj hx=>by
 simp only[Xy,hx,Yg,XW.injEq]at hj;subst hj;exact .v x⟩
theorem qN {c:Cx}{w:World}{ds:List D}{vs:List Value}(h:eE c.M w ds vs):bI c w (ds.map .d) vs:=⟨by simpa using h.1,fun j d x hj hx=>by
 simp only[Xy,XJ]at hj;obtain⟨y,hy,rfl⟩:=hj;exact .d _ _ (h.2 j y x hy hx)⟩
def yj:List PV->Option (List D)
 |[]=>some []
 | .d x::l=>(yj l).map (x:: ·)
 |_=>none
theorem tt:∀{l:List PV}{ds:List D},yj l=some ds->l=ds.map .d
 |[],ds,h=>by simp[yj]at h;subst h;rfl
 |p::l,ds,h=>by
  unfold yj at h;split at h
  ·rename_i heq;cases heq
  ·rename_i x l' heq;cases heq;cases hl:yj l with
   |none=>rw[hl]at h;cases h
   |some es=>
    rw[hl]at h;cases h;rw[tt hl];rfl
  ·cases h
def uO (l:List PV):PV:=match yj l with|some ds=> .d (.agg ds)|none=> .agg l
def OZ (l:List PV):PV:=match yj l with|some ds=> .d (.tup ds)|none=> .tup l
theorem yk {c:Cx}{w:World}{ds:List D}{vs:List Value}(h:bI c w (ds.map .d) vs):eE c.M w ds vs:=⟨by simpa using h.1,fun j d x hj hx=>by
 have:=h.2 j (.d d) x (by rw[Xy,hj];rfl) hx;cases this with|d _ _ h=>exact h⟩
theorem tu {c:Cx}{w:World}{l:List PV}{vs:List Value}(h:bI c w l vs)(h1:∀d∈l,d.one=true):RepP c w (uO l) (.agg vs.toArray):=by
 unfold uO;split
 ·rename_i ds dP;have e:=tt dP;subst e;have:=yk h;exact .d _ _ (.agg ds vs this.1 (fun d hd=>h1 (.d d) (Zd hd)) this.2)
 ·exact .agg l vs h.1 h1 h.2
theorem O0 {c:Cx}{w:World}{l:List PV}{vs:List Value}(h:bI c w l vs):RepP c w (OZ l) (.tuple vs.toArray):=by
 unfold OZ;split
 ·rename_i ds dP;have e:=tt dP;subst e;have:=yk h;exact .d _ _ (.tup ds vs this.1 this.2)
 ·exact .tup l vs h.1 h.2
def rH {α:Type}(pl:List (Nat × Nat)):List α->List (Nat × List α)->Option (List α)
 |cells,[]=>some cells
 |cells,(i,xs)::rest=>
  match pl[i]? with
  |none=>none
  |some (off,size)=>if xs.length=size/\off+size<=cells.length then rH pl (aB cells off xs) rest else none
theorem E5 {c:Cx}{w:World}(pl:List (Nat × Nat))(place:Nat->Option (Nat × Nat))(jC:∀i p,pl[i]? =some p->place i=some p):∀(pd:List (Nat × List PV)) (pv:List (Nat × Value)) (cells:List PV) (vs:List Value) (out:List PV),bI c w cells vs->
 pd.map (·.1)=pv.map (·.1)->(∀(j:Nat) (d:Nat × List PV) (x:Nat × Value),pd[j]? =some d->pv[j]? =some x->bI c w d.2 x.2.cells.toList)->rH pl cells pd=some out->(∀d∈cells,d.one=true)->(∀q∈pd,∀d∈q.2,d.one=true)->
 ∃vs':List Value,Instr.fill place vs.toArray pv=some vs'.toArray/\bI c w out vs'/\(∀d∈out,d.one=true)/\out.length=cells.length
 |[],[],cells,vs,out,h,_,_,hf,h1,_=>by
  simp[rH]at hf;subst hf;exact⟨vs,rfl,h,h1,rfl⟩
 |[],_::_,_,_,_,_,hm,_,_,_,_=>by simp at hm
 |_::_,[],_,_,_,_,hm,_,_,_,_=>by simp at hm
 |(i,xs)::pd,(i',v)::pv,cells,vs,out,h,hm,hr,hf,h1,h2=>by
  simp only[Xm,List.cons.injEq]at hm;obtain⟨rfl,hm⟩:=hm;have hx:=hr 0 (i,xs) (i,v) rfl rfl;unfold rH at hf;split at hf
  ·cases hf
  ·rename_i off size hp;split at hf
   ·rename_i hc;have vX:v.cells.size=size:=by have:=hx.1;simp at this;omega
    have bB:off+xs.length<=cells.length:=aa;rw[BL place vs.toArray i off size v pv (jC i _ hp) vX (by have:=h.1;simp;omega)];obtain⟨vs',q1,q2,q3,q4⟩:=E5 pl place jC pd pv (aB cells off xs) (aB vs off v.cells.toList) out (nQ h hx bB) hm (fun j d x hj hx=>hr (j+1) d x (by simpa using hj) (by simpa using hx)) hf
     (fun d hd=>(lU hd).elim (h1 d) (h2 (i,xs) ah d)) (fun q hq=>h2 q (by simp[hq]))
    exact⟨vs',q1,q2,q3,by rw[q4,bw bB]⟩
   ·cases hf
theorem a3C {p:Prop}(h:p:=by
 have:=tk.elem;rw[he']at this;cases d<;>simp[hO]at this;rw[this]):p:=h
theorem a4g {p:Prop}(h:p:=by
 rw[ho];simp only[Op.operands,List.mem_toArray,XN];exact⟨(i,y),by simpa using Z1 hy,rfl⟩):p:=h
theorem a4K {p:Prop}(h:p:=by
 have:=tk.elem;rw[he']at this;cases dd<;>simp[hO]at this;rw[this]):p:=h
theorem a6c {p:Prop}(h:p:=by
 have:=qN (c:=c) (J8 (M:=c.M) (w:=w) ti.zero);rwa [Z6]at this):p:=h
theorem cn {c:Cx}{w:World}{d:D}{v:Value}(h:RepP c w (.d d) v):RepD c.M w d v:=by
 cases h with|d _ _ h=>exact h
theorem cD {α:Type}{sz:Nat}:∀{rows:List (List α)},(∀r∈rows,r.length=sz)->∀i j,j < sz->rows.flatten[i*sz+j]? =(rows[i]?).bind (·[j]?)
 |[],_,i,j,_=>by simp
 |r::rows,h,0,j,hj=>by
  rw[YL,X5 (by rw[h r ah];omega)];simp
 |r::rows,h,i+1,j,hj=>by
  have hr:=h r ah;rw[YL,XH (by rw[hr,YP];omega),hr,show (i+1)*sz+j - sz=i*sz+j by rw[YP];omega,cD (fun r hr=>h r (by simp[hr])) i j hj];simp
section
variable {X:Cfg}{ops:Array Oper}{s:FS}{o:Oper}(hd:∀d,o.dst=some d->d < X.n)
include hd
theorem E6 {t f off sz k o':Nat}{x:Operand}{ti:TI}(ho:o.op= .fieldAddr t x f)(ht:aW X.P t=some ti)(hf:ti.fields[f]? =some (off,sz))(hs:sz≠0)(hx:ev s x= .ptr k o'):
 bO X ops s o {pv:= .ptr k (o'+off)}:=
 aN hd fun s' he _ a w c hc=>by
  have e1:=bR hc x;rw[he x (by simp[ho,Op.operands]),hx]at e1;generalize hu:a.eval x=u at e1;cases e1 with
  |ptr _ _ b hb=>
   obtain⟨i,d,z,tk⟩:=jg ht;obtain⟨fs,g,j,rfl,-,q1,q2,q3,q4⟩:=tk.field hf;have SY:j.size≠0:=aa;exact⟨.pointer (some ⟨b,o'+off,none⟩),by simp[execOp,ho,hu,Instr.fieldAt,run_underlying tk.und,q1,Instr.sureAddr,fieldPlace,sizeOf,typeInfo,q2,SY,q3,Addr.add_lit],.ptr k _ b hb⟩
omit hd in
theorem oM {P:Program}{t:Nat}{ti:TI}(ht:aW P t=some ti)(w:World)(b off:Nat)(cs:List Value)(hl:cs.length=ti.size)(eV:∀j v,cs[j]? =some v->w.cell? ⟨b,off+j,none⟩=some v)(h0:ti.agg=false->∃v,cs=[v]):
 (Instr.loadAt t (.pointer (some ⟨b,off,none⟩))).run P w= .ok (if ti.agg then .agg cs.toArray else cs.headD undef) w:=by
 obtain⟨i,d,z,tk⟩:=jg ht;have N8:(isAgg t).run P w= .ok ti.agg w:=by
  unfold isAgg;rw[Sem.run_bind,run_underlying tk.und w,<-tk.agg];cases d<;>simp[Tf]
 have ck:∀j v,cs[j]? =some v->w.cell? ((⟨b,off,none⟩:Addr).add j)=some v:=fun j v hv=>by rw[Addr.add_lit];exact eV j v hv
 cases hg:ti.agg with
 |true=>
  have hl':=run_loadCells_list (P:=P) w ⟨b,off,none⟩ cs ck;rw[hl,<-tk.size]at hl';rw[hg]at N8;simp[Instr.loadAt,Instr.sureAddr,loadVar,Sem.run_bind,N8,sizeOf,typeInfo,tk.info,hl']
 |false=>
  obtain⟨v,rfl⟩:=h0 hg;rw[hg]at N8;have:=eV 0 v rfl;simp only[XT]at this;simp[Instr.loadAt,Instr.sureAddr,loadVar,Sem.run_bind,N8,this]
theorem E7 {t:Nat}{x:Operand}{ti:TI}{ds:List D}{p:D}(ho:o.op= .load t x)(ht:aW X.P t=some ti)(hx:ev s x= .d (.ept ds))(cL:ti.size<=ds.length)(hp:(ti.agg=true/\p= .agg (ds.take ti.size))\/(ti.agg=false/\ti.size=1/\ds[0]? =some p)):
 bO X ops s o {pv:= .d p}:=
 aN hd fun s' he _ a w c hc=>by
  have e1:=bR hc x;rw[he x (by simp[ho,Op.operands]),hx]at e1;generalize hu:a.eval x=u at e1;cases e1 with
  |d _ _ e1=>
   cases e1 with
   |ept _ b off f hM hb h1 ck bC=>
    have cr:=oM ht w b off ((X8 ti.size).map f) ah (fun j v hj=>by
     simp only[Xy,XJ]at hj;obtain⟨y,hy,rfl⟩:=hj;have:=z' (n:=ti.size) (i:=j);have hj':j < ti.size:=by
      rcases XM j ti.size with h|h
      ·exact h
      ·rw[XR (by simpa using h)]at hy;cases hy
     rw[z' hj']at hy;cases hy;exact ck j aa)
    rcases hp with⟨rm,rfl⟩|⟨rm,mQ,hp⟩
    ·refine⟨.agg ((X8 ti.size).map f).toArray,?_,.d _ _ (.agg _ _ aK (fun d hd=>h1 d (Yd hd)) (fun j d v hj hv=>?_))⟩
     ·have:=cr (fun h=>by rw[rm]at h;cases h);rw[rm,aj rfl]at this;simp only[execOp,ho,hu];rw[Sem.run_bind,this];rfl
     ·rw[Zu]at hj;split at hj
      ·rename_i hlt;simp only[Xy,z' hlt,Yg,XW.injEq]at hv;subst hv;exact bC j d hj
      ·cases hj
    ·refine⟨f 0,?_,.d _ _ (bC 0 p hp)⟩;have:=cr (fun _=>⟨f 0,by rw[mQ];rfl⟩);rw[rm,mQ]at this;simp only[execOp,ho,hu];rw[Sem.run_bind,this];rfl
omit hd in
theorem eZ {α:Type}{l:List α}{off n j:Nat}{x:α}(h:((l.drop off).take n)[j]? =some x):j < n/\l[off+j]? =some x:=by
 rw[Zu]at h;split at h
 ·rename_i hlt;rw[Yl]at h;exact⟨hlt,h⟩
 ·cases h
omit hd in
theorem bI.part {c:Cx}{w:World}{l:List PV}{vs:List Value}(h:bI c w l vs)(off n:Nat):bI c w ((l.drop off).take n) ((vs.drop off).take n):=
 ⟨by rw[Xp,Xp,XS,XS,h.1],fun j d x hj hx=>h.2 _ d x (eZ hj).2 (eZ hx).2⟩
theorem E8 {t k off T:Nat}{x:Operand}{ti:TI}{cells:List PV}{p:PV}(ho:o.op= .load t x)(ht:aW X.P t=some ti)(hx:ev s x= .ptr k off)(hk:s.heap k= .box T cells)(cL:off+ti.size<=cells.length)
 (hp:(ti.agg=true/\p=uO ((cells.drop off).take ti.size))\/(ti.agg=false/\ti.size=1/\cells[off]? =some p)):bO X ops s o {pv:=p,touch:=[k]}:=
 aN hd fun s' he jf a w c hc=>by
  have e1:=bR hc x;rw[he x (by simp[ho,Op.operands]),hx]at e1;generalize hu:a.eval x=u at e1;have bp:=hc.chunk k;rw[jf k ah,hk]at bp;cases e1 with
  |ptr _ _ b hb=>
   cases bp with
   |box _ _ b' vs hb' hh hr h1=>
    rw[hb]at hb';cases hb';have VR:vs.length=cells.length:=hr.1.symm;have cr:=oM ht w b off ((vs.drop off).take ti.size) (by rw[Xp,XS];omega) (fun j v hj=>by
     simp[YU,hh,(eZ hj).2])
    rcases hp with⟨rm,rfl⟩|⟨rm,mQ,hp⟩
    ·refine⟨.agg ((vs.drop off).take ti.size).toArray,?_,tu (hr.part off ti.size) (fun d hd=>h1 d (Yc (Yd hd)))⟩;have:=cr (fun h=>by rw[rm]at h;cases h);rw[rm,aj rfl]at this;simp only[execOp,ho,hu];rw[Sem.run_bind,this];rfl
    ·obtain⟨v,hv⟩:∃v,vs[off]? =some v:=⟨vs[off]'(by omega),Xk _⟩;have dL:(vs.drop off).take ti.size=[v]:=by
      rw[mQ,YR aa];simp only[ZS,Zb];rw[Xk aa]at hv;simpa using hv
     refine⟨v,?_,hr.2 off p v hp hv⟩;have:=cr (fun _=>⟨v,dL⟩);rw[rm,dL]at this;simp only[execOp,ho,hu];rw[Sem.run_bind,this];rfl
theorem O1 {t e sz:Nat}{x y:Operand}{ti te:TI}{rows:List (List D)}{row:List D}{kd:IntKind}{n:Int}(ho:o.op= .indexAddr t x y)(ht:aW X.P t=some ti)(he':ti.elem=some e)(iH:aW X.P e=some te)(cL:te.size=sz)
 (hx:ev s x= .d (.sl sz rows)) (hy:ev s y= .d (.v (.int kd n))) (hn:0<=n) (bV:rows[n.toNat]? =some row):bO X ops s o {pv:= .d (.ept row)}:=
 aN hd fun s' he _ a w c hc=>by
  have e1:=bR hc x;rw[he x (by simp[ho,Op.operands]),hx]at e1;have e2:=dt hc ((he y (by simp[ho,Op.operands])).trans hy);generalize hu:a.eval x=u at e1;have hlt:n.toNat < rows.length:=(Xn.1 bV).1;have e1:=cn e1;cases e1 with
  |nil=>simp at hlt
  |sl _ _ b off cap f hM hb hc' hm hr h1 ck bC=>
   obtain⟨i,d,z,tk⟩:=jg ht;obtain⟨ie,de,ze,tke⟩:=jg iH;have ly:d= .slice e:=a3C
   subst ly;have uu:0<=n/\n < (rows.length:Int):=⟨hn,by omega⟩;have C5:row.length=sz:=hr row (Xl bV);refine⟨.pointer (some ⟨b,off+n.toNat*sz,none⟩),?_,.d _ _ (.ept row b _ (fun j=>f n.toNat j) hM hb (fun d hd=>h1 row (Xl bV) d hd) (fun j hj=>ck _ j hlt aa) (fun j d hj=>bC _ j row d bV hj))⟩;simp[execOp,ho,hu,e2,Instr.indexAt,asIntOf,run_underlying tk.und,uu,sizeOf,typeInfo,tke.info,tke.size,cL,Addr.add_lit]
theorem O2 {t ty:Nat}{x:Operand}{e:Nat}{ti:TI}{d:D}{n:Nat}(ho:o.op= .call {callee:= .builtin .len,args:=#[x],argTypes:=#[t]})(ht:aW X.P t=some ti)(he':ti.elem=some e)(hx:ev s x= .d d)
 (hn:(∃sz rows,d= .sl sz rows/\n=rows.length)\/(d= .v (.slice none 0 0)/\n=0)):bO X ops s o {pv:= .d (.v (.int .i64 n))}:=
 aN hd fun s' he _ a w c hc=>by
  have e1:=bR hc x;rw[he x (by simp[ho,Op.operands,Call.operands]),hx]at e1;generalize hu:a.eval x=u at e1;obtain⟨i,dd,z,tk⟩:=jg ht;have ly:dd= .slice e:=a4K
  subst ly;have rV:∃ao cap,u= .slice ao n cap:=by
   have e1:=cn e1;rcases hn with⟨sz,rows,rfl,rfl⟩|⟨rfl,rfl⟩
   ·cases e1 with
    |nil _ ao cap=>exact⟨ao,cap,rfl⟩
    |sl _ _ b off cap=>exact⟨_,cap,rfl⟩
   ·cases e1;exact⟨none,0,rfl⟩
  obtain⟨ao,cap,rfl⟩:=rV;refine⟨.int .i64 n,?_,.d _ _ (.v _)⟩;simp[execOp,ho,hu,resolve,invoke,builtin,Builtin.len_,run_underlying tk.und,goInt]
theorem Ip {x:Operand}{i:Nat}{ds:List D}{d:D}(ho:o.op= .extract x i)(hx:ev s x= .d (.tup ds))(hi:ds[i]? =some d):bO X ops s o {pv:= .d d}:=
 aN hd fun s' he _ a w c hc=>by
  have e1:=bR hc x;rw[he x (by simp[ho,Op.operands]),hx]at e1;generalize hu:a.eval x=u at e1;have e1:=cn e1;cases e1 with
  |tup _ vs hl bC=>
   have hlt:i < vs.length:=by rw[<-hl];exact(Xn.1 hi).1
   have hv:vs[i]? =some vs[i]:=Xk hlt;exact⟨vs[i],by simp[execOp,ho,hu,Instr.extract,hv],.d _ _ (bC i d _ hi hv)⟩
theorem E9 {x:Operand}{i:Nat}{ds:List PV}{d:PV}(ho:o.op= .extract x i)(hx:ev s x= .tup ds)(hi:ds[i]? =some d):bO X ops s o {pv:=d}:=
 aN hd fun s' he _ a w c hc=>by
  have e1:=bR hc x;rw[he x (by simp[ho,Op.operands]),hx]at e1;generalize hu:a.eval x=u at e1;cases e1 with
  |tup _ vs hl bC=>
   have hlt:i < vs.length:=by rw[<-hl];exact(Xn.1 hi).1
   have hv:vs[i]? =some vs[i]:=Xk hlt;exact⟨vs[i],by simp[execOp,ho,hu,Instr.extract,hv],bC i d _ hi hv⟩
theorem BN {t:Nat}{pl:List (Nat × Nat)}{place:Nat->Option (Nat × Nat)}{parts:Array (Nat × Operand)}{ti:TI}{pd:List (Nat × List PV)}{out:List PV}(ho:o.op= .build t parts)(ht:aW X.P t=some ti)(jC:∀i p,pl[i]? =some p->place i=some p)(hbt:∀ps,X.P.built t ps=Instr.fill place ti.zero.toArray ps)
 (hp:pd.length=parts.size) (hq:∀(j:Nat) (i:Nat) (x:Operand),parts[j]? =some (i,x)->pd[j]? =some (i,cX (ev s x))/\BM (ev s x)=true) (hf:rH pl (ti.zero.map fun x=> .d (.v x)) pd=some out):
 bO X ops s o {pv:=uO out}:=
 aN hd fun s' he _ a w c hc=>by
  obtain⟨i,d,z,tk⟩:=jg ht;have vT:bI c w (ti.zero.map fun x=> .d (.v x)) ti.zero:=a6c
  have a1x:∀d∈ti.zero.map (fun x=>PV.d (.v x)),d.one=true:=by
   intro d hd;obtain⟨x,hx,rfl⟩:=XN.1 hd;exact tk.one x hx
  have pz:∀(j:Nat) (d:Nat × List PV) (x:Nat × Value),pd[j]? =some d->(parts.toList.map fun(i,x)=>(i,a.eval x))[j]? =some x->d.1=x.1/\bI c w d.2 x.2.cells.toList/\∀e∈d.2,e.one=true:=by
   intro j d x hj hx;simp only[Xy,X6,XJ]at hx;obtain⟨⟨i,y⟩,hy,rfl⟩:=hx;obtain⟨h1,h3⟩:=hq j i y hy;rw[hj]at h1;cases h1;have gz:y∈o.op.operands:=a4g
   have bC:=bR hc y;rw[he y gz]at bC;rw[<-he y gz]at h3;have:=lT (bR hc y) h3;rw[he y gz]at this;exact⟨rfl,this⟩
  obtain⟨vs',q1,q2,q3,q4⟩:=E5 (c:=c) (w:=w) pl place jC pd (parts.toList.map fun(i,x)=>(i,a.eval x)) (ti.zero.map fun x=> .d (.v x)) ti.zero out vT
   (by
    apply Yj;intro j;simp only[Xy];cases hj:parts[j]? with
    |none=>
     have h1:parts.size<=j:=by simpa using hj
     rw[XR aa];simp[hj]
    |some ix=>
     obtain⟨i,x⟩:=ix;obtain⟨h1,-⟩:=hq j i x hj;simp[hj,h1])
   (fun j d x h1 h2=>(pz j d x h1 h2).2.1) hf a1x
   (fun q hq' e he'=>by
    obtain⟨j,hj,hjq⟩:=Ya hq';have hjs:j < parts.toList.length:=by simpa using hp ▸ hj
    exact(pz j q _ (by rw[<-hjq];exact Xk hj) (by rw[Xy,Xk hjs];rfl)).2.2 e he')
  refine⟨.agg vs'.toArray,?_,tu q2 q3⟩;have hb:X.P.built t (parts.map fun(i,x)=>(i,a.eval x)).toList=some vs'.toArray:=by
   rw[hbt,U'];exact q1
  have:=run_build w t (parts.map fun(i,x)=>(i,a.eval x)) vs'.toArray hb;simp only[execOp,ho];rw[Sem.run_bind,this];rfl
theorem O3 {t:Nat}{parts:Array (Nat × Operand)}{ti:TI}{pd:List (Nat × List PV)}{out:List PV}(ho:o.op= .build t parts)(ht:aW X.P t=some ti)(ec:ti.fields≠[])
 (hp:pd.length=parts.size) (hq:∀(j:Nat) (i:Nat) (x:Operand),parts[j]? =some (i,x)->pd[j]? =some (i,cX (ev s x))/\BM (ev s x)=true) (hf:rH ti.fields (ti.zero.map fun x=> .d (.v x)) pd=some out):
 bO X ops s o {pv:=uO out}:=
 by
  obtain⟨i,d,z,tk⟩:=jg ht;obtain⟨⟨off,sz⟩,rest,gX⟩:∃p l,ti.fields=p::l:=by
   cases h:ti.fields with
   |nil=>exact absurd h ec
   |cons p l=>exact⟨p,l,rfl⟩
  obtain⟨fs,g,j,rfl,jC,-⟩:=tk.field (f:=0) (off:=off) (sz:=sz) (by rw[gX];rfl);refine BN hd ho ht (pl:=ti.fields) (place:=(ti.fields.toArray[·]?)) (fun i p h=>by simpa using h) (fun ps=>?_) hp hq hf;unfold Program.built;have a2y:fs.toList.mapM (fun f=>(X.P.info? f.type).map fun i=>(f.offset,i.size))=some ti.fields:=jC;have:z.cells=ti.zero.toArray:=by rw[<-tk.zcells]
  simp only[tk.info,tk.und,tk.zero,a2y,this]
theorem Fa {g:Nat}{caps:Array Operand}(ho:o.op= .makeFunc (.func g) #[] caps):bO X ops s o {pv:= .clo g (caps.toList.map (ev s))}:=
 aN hd fun s' he _ a w c hc=>by
  refine⟨.func (.func g) #[] (caps.toList.map a.eval).toArray,?_,.clo g _ _ ah (fun j d x hj hx=>?_)⟩
  ·have:(caps.toList.map a.eval).toArray=caps.map a.eval:=by rw[<-U']
   rw[this];simp[execOp,ho,Instr.makeFunc]
  ·simp only[Xy,X6,XJ]at hj hx;obtain⟨y,hy,rfl⟩:=hj;obtain⟨y',hy',rfl⟩:=hx;rw[hy]at hy';cases hy';have:=bR hc y;rwa [he y (by rw[ho];simp[Op.operands,Z1 hy])]at this
theorem Iq {t f off sz k g sz' i j:Nat}{x:Operand}{ti:TI}(ho:o.op= .fieldAddr t x f)(ht:aW X.P t=some ti)(hf:ti.fields[f]? =some (off,sz))(hs:sz≠0)(hx:ev s x= .rp k g sz' i j):
 bO X ops s o {pv:= .rp k g sz' i (j+off)}:=
 aN hd fun s' he _ a w c hc=>by
  have e1:=bR hc x;rw[he x (by simp[ho,Op.operands]),hx]at e1;generalize hu:a.eval x=u at e1;cases e1 with
  |rp _ _ _ _ _ b n cap hb=>
   obtain⟨ii,d,z,tk⟩:=jg ht;obtain⟨fs,g,jj,rfl,-,q1,q2,q3,q4⟩:=tk.field hf;have SY:jj.size≠0:=aa;exact⟨.pointer (some ⟨b,i*sz'+(j+off),none⟩),by simp[execOp,ho,hu,Instr.fieldAt,run_underlying tk.und,q1,Instr.sureAddr,fieldPlace,sizeOf,typeInfo,q2,SY,q3,Addr.add_lit,Zh],.rp k _ _ _ _ b n cap hb⟩
omit hd in
theorem eH {k E sz g:Nat}{rows:List (List PV)}{c:Cx}{w:World}{b n cap:Nat}(bp:ChunkOK c w k (.row E sz g rows))(hb:c.ov k g=some (.slice (some ⟨b,0,none⟩) n cap))(bV:rows≠[]):
 ∃(cur:Array Value) (xs:List Value),w.heap[b]? =some (.cells cur E (0,0))/\bI c w rows.flatten xs/\xs.length=rows.length*sz/\(∀j,j < rows.length*sz->cur[j]? =xs[j]?)/\(∀r∈rows,r.length=sz)/\(∀r∈rows,∀d∈r,d.one=true)/\n=rows.length/\rows.length*sz<=cur.size/\
  cap<=maxLen/\n<=cap/\cur.size=cap*sz:=by
 cases bp with
 |row _ _ _ _ u xs hu bj hr cL h1 hg=>
  rw[hb]at hu;cases hu;generalize hn:rows.length=n' at bj;cases bj with
  |zero a=>exact absurd (X4 hn) bV
  |row _ _ _ cur _ h0 hh Ls hm hs hl ht=>
   refine⟨cur,xs,hh,hr,hl,fun j hj=>?_,cL,h1,rfl,?_,hm,Ls,hs⟩
   ·rw[<-ht,XP hj,X6]
   ·rw[hs];exact Yt sz Ls
omit hd in
theorem nR {k E sz g:Nat}{rows:List (List PV)}{c:Cx}{w:World}{v:Value}(bp:ChunkOK c w k (.row E sz g rows))(ep:c.ov k g=some v)(bV:rows≠[]):∃b cap,v= .slice (some ⟨b,0,none⟩) rows.length cap:=by
 cases bp with
 |row _ _ _ _ u xs hu bj hr cL h1 hg=>
  rw[ep]at hu;cases hu;generalize hn:rows.length=n' at bj;cases bj with
  |nil=>exact absurd (X4 hn) bV
  |zero a=>exact absurd (X4 hn) bV
  |row b n cap=>exact⟨b,cap,rfl⟩
theorem Fb {t e k g sz:Nat}{x y:Operand}{ti te:TI}{rows:List (List PV)}{kd:IntKind}{n:Int}(ho:o.op= .indexAddr t x y)(ht:aW X.P t=some ti)(he':ti.elem=some e)(iH:aW X.P e=some te)(cL:te.size=sz)
 (hx:ev s x= .own k g) (hk:s.heap k= .row e sz g rows) (hy:ev s y= .d (.v (.int kd n))) (hn:0<=n) (hlt:n.toNat < rows.length):bO X ops s o {pv:= .rp k g sz n.toNat 0,touch:=[k]}:=
 aN hd fun s' he jf a w c hc=>by
  have e1:=bR hc x;rw[he x (by simp[ho,Op.operands]),hx]at e1;have e2:=dt hc ((he y (by simp[ho,Op.operands])).trans hy);have bp:=hc.chunk k;rw[jf k ah,hk]at bp;generalize hu:a.eval x=u at e1;obtain⟨i,d,z,tk⟩:=jg ht;obtain⟨ie,de,ze,tke⟩:=jg iH;have ly:d= .slice e:=a3C
  subst ly;cases e1 with
  |own _ _ _ ep h1=>
   obtain⟨gb,cap,rfl⟩:=nR bp ep (fun e=>by rw[e]at hlt;simp at hlt);have uu:0<=n/\n < (rows.length:Int):=⟨hn,by omega⟩;refine⟨.pointer (some ⟨gb,n.toNat*sz+0,none⟩),?_,.rp k g sz _ _ gb _ cap ep⟩;simp[execOp,ho,hu,e2,Instr.indexAt,asIntOf,run_underlying tk.und,uu,sizeOf,typeInfo,tke.info,tke.size,cL,Addr.add_lit]
omit hd in
theorem Fc {sz i:Nat}{rows:List (List PV)}{row:List PV}{c:Cx}{w:World}{xs:List Value}(h:bI c w rows.flatten xs)(cL:∀r∈rows,r.length=sz)(bV:rows[i]? =some row)(hl:xs.length=rows.length*sz):bI c w row ((xs.drop (i*sz)).take sz):=by
 have hi:i < rows.length:=(Xn.1 bV).1;have C5:row.length=sz:=cL row (Xl bV);have Ev:(i+1)*sz<=rows.length*sz:=Yt sz hi;rw[YP]at Ev;refine⟨by rw[Xp,XS];omega,fun j d x hj hx=>?_⟩;obtain⟨hlt,hx⟩:=eZ hx;exact h.2 _ d x (by rw[cD cL i j hlt,bV];exact hj) hx
theorem BO {t k g sz i j E:Nat}{x:Operand}{ti:TI}{rows:List (List PV)}{row:List PV}{p:PV}(ho:o.op= .load t x)(ht:aW X.P t=some ti)(hx:ev s x= .rp k g sz i j)(hk:s.heap k= .row E sz g rows)(bV:rows[i]? =some row)(cL:j+ti.size<=sz)
 (hp:(ti.agg=true/\p=uO ((row.drop j).take ti.size))\/(ti.agg=false/\ti.size=1/\row[j]? =some p)):bO X ops s o {pv:=p,touch:=[k]}:=
 aN hd fun s' he jf a w c hc=>by
  have e1:=bR hc x;rw[he x (by simp[ho,Op.operands]),hx]at e1;have bp:=hc.chunk k;rw[jf k ah,hk]at bp;generalize hu:a.eval x=u at e1;cases e1 with
  |rp _ _ _ _ _ b n cap hb=>
   obtain⟨cur,xs,q1,q2,q3,q4,q5,q6,q7,q8,-⟩:=eH bp hb (fun e=>by rw[e]at bV;cases bV);have hi:i < rows.length:=(Xn.1 bV).1;have C5:row.length=sz:=q5 row (Xl bV);have Ev:(i+1)*sz<=rows.length*sz:=Yt sz hi;rw[YP]at Ev;have pz:=Fc q2 q5 bV q3;generalize HB:(xs.drop (i*sz)).take sz=ys at pz;have uv:ys.length=sz:=by rw[<-pz.1,C5]
   have ck:∀j' v,ys[j']? =some v->cur[i*sz+j']? =some v:=by
    intro j' v hj';rw[<-HB]at hj';obtain⟨hlt,hj'⟩:=eZ hj';rw[q4 _ aa,hj']
   have cr:=oM ht w b (i*sz+j) ((ys.drop j).take ti.size) (by rw[Xp,XS];omega) (fun j' v hj'=>by
    have:=ck _ v (eZ hj').2;simp only[YU,q1];rw[Zh,this];simp)
   rcases hp with⟨rm,rfl⟩|⟨rm,mQ,hp⟩
   ·refine⟨.agg ((ys.drop j).take ti.size).toArray,?_,tu (pz.part j ti.size) (fun d hd=>q6 row (Xl bV) d (Yc (Yd hd)))⟩;have:=cr (fun h=>by rw[rm]at h;cases h);rw[rm,aj rfl]at this;simp only[execOp,ho,hu];rw[Sem.run_bind,this];rfl
   ·obtain⟨v,hv⟩:∃v,ys[j]? =some v:=⟨ys[j]'(by omega),Xk _⟩;have dL:(ys.drop j).take ti.size=[v]:=by
     rw[mQ,YR aa];simp only[ZS,Zb];rw[Xk aa]at hv;simpa using hv
    refine⟨v,?_,pz.2 j p v hp hv⟩;have:=cr (fun _=>⟨v,dL⟩);rw[rm,dL]at this;simp only[execOp,ho,hu];rw[Sem.run_bind,this];rfl
theorem L4 {t k g sz E:Nat}{x:Operand}{e:Nat}{ti:TI}{rows:List (List PV)}(ho:o.op= .call {callee:= .builtin .len,args:=#[x],argTypes:=#[t]})(ht:aW X.P t=some ti)(he':ti.elem=some e)(hx:ev s x= .own k g)(hk:s.heap k= .row E sz g rows):
 bO X ops s o {pv:= .d (.v (.int .i64 rows.length)),touch:=[k]}:=
 aN hd fun s' he jf a w c hc=>by
  have e1:=bR hc x;rw[he x (by simp[ho,Op.operands,Call.operands]),hx]at e1;have bp:=hc.chunk k;rw[jf k ah,hk]at bp;generalize hu:a.eval x=u at e1;obtain⟨i,dd,z,tk⟩:=jg ht;have ly:dd= .slice e:=a4K
  subst ly;cases e1 with
  |own _ _ _ ep h1=>
   cases bp with
   |row _ _ _ _ u' xs hu' bj hr Va h1 hg=>
    rw[ep]at hu';cases hu';refine⟨.int .i64 rows.length,?_,.d _ _ (.v _)⟩;generalize hn:rows.length=n' at bj;cases bj<;>simp[execOp,ho,hu,resolve,invoke,builtin,Builtin.len_,run_underlying tk.und,goInt]
end
theorem a4I {p:Prop}(h:p:=by
 apply Yj;intro j';by_cases hj':j' < rows.length*sz
 ·rw[XP hj'];exact(q4 j' hj').symm.trans ah
 ·rw[XR aa,XR (by rw[Xp];omega)]):p:=h
theorem a5o {p:Prop}(h:p:=by
 rw[hu];simp[Instr.storeAt,Instr.sureAddr,storeVar,sizeOf,typeInfo,tk.info,tk.size,uv,rz]):p:=h
section
variable {X:Cfg}{ops:Array Oper}{s:FS}{o:Oper}(hd:∀d,o.dst=some d->d < X.n)
include hd
theorem O4 {t nk:Nat}{ti:TI}(ho:o.op= .alloc t)(ht:aW X.P t=some ti)(hk:s.heap nk= .none)(wY:¬nk < X.m):bO X ops s o {pv:= .ptr nk 0,eff:=[(nk,.box t (ti.zero.map fun x=> .d (.v x)))],touch:=[nk]}:=
 en hd (fun kc h=>by simp at h;subst h;simp) fun s' he jf a w c hc=>by
  obtain⟨i,d,z,tk⟩:=jg ht;have hr:bI c w (ti.zero.map fun x=> .d (.v x)) ti.zero:=a6c
  obtain⟨c',h1,h2⟩:=hc.new_box (k:=nk) (by rw[jf nk ah];exact hk) wY t _ ti.zero hr (fun d hd=>by
   obtain⟨x,hx,rfl⟩:=XN.1 hd;exact tk.one x hx)
  refine⟨_,_,_,?_,.inl rfl,c',h1,h2⟩;have hz:z.cells=ti.zero.toArray:=by rw[<-tk.zcells]
  have cr:(Instr.alloc t true (.tuple #[])).run X.P w= .ok (.pointer (some ⟨w.heap.size,0,none⟩)) (w.alloc (.cells ti.zero.toArray t)):=by
   rw[<-hz];have kG:∀o:Obj,({w with heap:=w.heap.push o}:World)=w.alloc o:=fun o=>(_k w o);simp[Instr.alloc,zeroValue,typeInfo,tk.info,tk.zero,newVar,newRow,newObj,Sem.run,kG]
  simp only[execOp,ho];rw[Sem.run_bind,cr];rfl
theorem Wf {t nk:Nat}{x:Operand}(ho:o.op= .box t x)(hk:s.heap nk= .none)(wY:¬nk < X.m)(hx:BM (ev s x)=true):bO X ops s o {pv:= .ptr nk 0,eff:=[(nk,.box t (cX (ev s x)))],touch:=[nk]}:=
 en hd (fun kc h=>by simp at h;subst h;simp) fun s' he jf a w c hc=>by
  have e1:=bR hc x;rw[he x (by simp[ho,Op.operands])]at e1;obtain⟨r1,r2⟩:=lT e1 hx;obtain⟨c',h1,h2⟩:=hc.new_box (k:=nk) (by rw[jf nk ah];exact hk) wY t _ _ r1 r2;refine⟨_,_,_,?_,.inl rfl,c',h1,h2⟩;have cr:(Instr.box t (a.eval x)).run X.P w= .ok (.pointer (some ⟨w.heap.size,0,none⟩)) (w.alloc (.cells (a.eval x).cells.toList.toArray t)):=by
   have kG:∀o:Obj,({w with heap:=w.heap.push o}:World)=w.alloc o:=fun o=>(_k w o);simp[Instr.box,newVar,newRow,newObj,Sem.run,kG]
  simp only[execOp,ho];rw[Sem.run_bind,cr];rfl
theorem O5 {t k off T:Nat}{x y:Operand}{ti:TI}{cells:List PV}(ho:o.op= .store t x y)(vW:o.dst=none)(ht:aW X.P t=some ti)(hx:ev s x= .ptr k off)(hk:s.heap k= .box T cells)(hy:BM (ev s y)=true)
 (hl:(cX (ev s y)).length=ti.size) (cL:off+ti.size<=cells.length):bO X ops s o {pv:= .any,eff:=[(k,.box T (aB cells off (cX (ev s y))))],touch:=[k]}:=
 en hd (fun kc h=>by simp at h;subst h;simp) fun s' he jf a w c hc=>by
  have e1:=bR hc x;rw[he x (by simp[ho,Op.operands]),hx]at e1;have e2:=bR hc y;rw[he y (by simp[ho,Op.operands])]at e2;obtain⟨r1,r2⟩:=lT e2 hy;have dL:=bI.one r1 r2;have hk':s'.heap k= .box T cells:=by rw[jf k ah];exact hk
  have bp:=hc.chunk k;rw[hk']at bp;generalize hu:a.eval x=u at e1;cases e1 with
  |ptr _ _ b hb=>
   cases bp with
   |box _ _ b' vs hb' hh hr h1=>
    rw[hb]at hb';cases hb';obtain⟨i,d,z,tk⟩:=jg ht;have VR:vs.length=cells.length:=hr.1.symm;have uv:(a.eval y).cells.size=ti.size:=by have:=r1.1;simp at this;omega
    have jc:=nQ (off:=off) hr r1 aa;have h3:=hc.set_box hk' hb hh jc (fun d hd=>(lU hd).elim (h1 d) (r2 d));refine⟨.skip,undef,_,?_,.inr ⟨rfl,rfl⟩,c,h3,.any _⟩;have ec:=run_storeCells_at X.P b off T (a.eval y).cells.toList 0 vs.toArray w hh aK dL;have rz:(storeCells ⟨b,off,none⟩ (a.eval y).cells.toList).run X.P w= .ok () (w.setRow b (aB vs off (a.eval y).cells.toList).toArray):=by
     rw[ec];simp[aB]
    have cr:(Instr.storeAt t (a.eval x) (a.eval y)).run X.P w= .ok () (w.setRow b (aB vs off (a.eval y).cells.toList).toArray):=a5o
    simp only[execOp,ho];rw[Sem.run_bind,cr];rfl
omit hd in
theorem cO {α:Type}{sz:Nat}:∀{rows:List (List α)},(∀r∈rows,r.length=sz)->rows.flatten.length=rows.length*sz
 |[],_=>by simp
 |r::rows,h=>by
  rw[YL,Xv,h r ah,cO (fun r hr=>h r (by simp[hr])),Xx,YP];omega
omit hd in
theorem ym {M:Nat->Prop}{w:World}{sz:Nat}{rows:List (List D)}{ad:Addr}{n cap:Nat}(hs:0 < sz)(h:RepD M w (.sl sz rows) (.slice (some ad) n cap)):
 ∃xs:List Value,xs.length=n*sz/\n=rows.length/\eE M w rows.flatten xs/\(∀j u,xs[j]? =some u->w.cell? (ad.add j)=some u)/\(∀u∈xs,u.oneCell'=true)/\(∀r∈rows,r.length=sz)/\(∀r∈rows,∀d∈r,d.one=true):=by
 cases h with
 |nil _ _ _ hm=>exact⟨[],by simp,rfl,⟨rfl,fun j d x h=>by simp at h⟩,fun j u h=>by simp at h,fun u h=>by simp at h,fun r h=>by simp at h,fun r h=>by simp at h⟩
 |sl _ _ b off cap f hM hb hc hm hr h1 ck bC=>
  have hdm:∀j,j < rows.length*sz->j / sz < rows.length/\j % sz < sz/\j / sz*sz+j % sz=j:=fun j hj=>
   ⟨ZK (by rw[ZA];exact hj),Nat.mod_lt _ hs,by rw[ZA];exact Nat.div_add_mod j sz⟩
  have JO:∀j u,((X8 (rows.length*sz)).map fun j=>f (j / sz) (j % sz))[j]? =some u->j < rows.length*sz/\u=f (j / sz) (j % sz):=by
   intro j u hj;simp only[Xy,XJ]at hj;obtain⟨y,hy,rfl⟩:=hj;have hj':j < rows.length*sz:=by
    rcases XM j (rows.length*sz)with h|h
    ·exact h
    ·rw[XR (by simpa using h)]at hy;cases hy
   rw[z' hj']at hy;cases hy;exact⟨hj',rfl⟩
  have HF:eE M w rows.flatten ((X8 (rows.length*sz)).map fun j=>f (j / sz) (j % sz)):=by
   refine⟨by rw[cO hr];simp,fun j d x hj hx=>?_⟩;obtain⟨hj',rfl⟩:=JO j x hx;obtain⟨q1,q2,q3⟩:=hdm j hj';rw[<-q3,cD hr _ _ q2]at hj;cases bV:rows[j / sz]? with
   |none=>rw[bV]at hj;cases hj
   |some row=>
    rw[bV]at hj;exact bC _ _ row d bV hj
  refine⟨_,by simp,rfl,HF,fun j u hj=>?_,eE.one HF (fun d hd=>?_),hr,h1⟩
  ·obtain⟨hj',rfl⟩:=JO j u hj;obtain⟨q1,q2,q3⟩:=hdm j hj';rw[Addr.add_lit];have:=ck _ _ q1 q2;rwa [Zh,q3]at this
  ·obtain⟨r,hr',H3⟩:=C'.1 hd;exact h1 r hr' d H3
omit hd in
theorem Dr {P:Program}{w:World}(base:Nat)(t ty e:TypeId)(i:TypeInfo)(z:Value)(size bytes:Nat)(ht:P.underlying t=some (.slice e))(hi:P.info? e=some i)(hz:i.zero=some z)
 (nx:i.size=size) (EO:i.bytes=bytes) (Ow:z.cells.size=size) (cL:0 < size) (v:Value) (n:Nat) (xs:List Value) (bj:w.ownsRow base e size v n xs)
 (a:Addr) (m c:Nat) (news:List Value) (hl:news.length=m*size) (wZ:∀j u,news[j]? =some u->w.cell? (a.add j)=some u) (h1:∀u∈news,u.oneCell'=true)
 (VS:n+m<=maxLen) (sX:(n+m)*bytes<=140737488355328) {v':Value}{w':World} (cr:(Builtin.append_ #[t,t] ty #[v,.slice (some a) m c]).run P w= .ok v' w'):
 v'.ownBlock=v.ownBlock\/∀b,v'.ownBlock=some b->w.heap.size<=b:=by
 subst nx;subst EO;simp only[maxLen]at VS;rcases bj.2 with⟨rfl,rfl⟩|⟨g,cap,cur,rfl,cT,hg,Ls,JS,eV,VT⟩
 ·by_cases hm:m=0
  ·subst hm;have hn:news=[]:=X4 (by simpa using hl);have:(Builtin.append_ #[t,t] ty #[.slice none 0 0,.slice (some a) 0 c]).run P w= .ok (.slice none 0 0) w:=by
    simp[Builtin.append_,run_underlying ht,sizeOf,typeInfo,hi,Builtin.lenOf,Builtin.firstCells,loadCells,loadCellsFrom]
   rw[this]at cr;cases cr;exact .inl rfl
  ·have hr:=run_append_nil (P:=P) w t ty e i z ht hi hz a m c news hl wZ aa aa (by have hb:=sX;simp only[XE]at hb;omega);rw[hr]at cr;cases cr;refine .inr fun b hb=>?_;simp[Value.ownBlock]at hb;omega
 ·by_cases jD:n+m<=cap
  ·have qC:n*i.size+news.length<=cur.size:=by rw[hl,eV,<-ZC];exact Yt _ jD
   have hr:=run_append_room (P:=P) w t ty e i ht hi g n cap cur hg a m c news hl wZ h1 jD qC;rw[hr]at cr;cases cr;exact .inl rfl
  ·have holds:∀j u,xs[j]? =some u->w.cell? ((⟨g,0,none⟩:Addr).add j)=some u:=bj.cells (g:=g) rfl;have hr:=run_append_grow (P:=P) w t ty e i z ht hi hz ⟨g,0,none⟩ n cap xs bj.1 holds a m c news hl wZ aa aa (growslice_fits aa sX);rw[hr]at cr;cases cr;refine .inr fun b hb=>?_;simp[Value.ownBlock]at hb;omega
omit hd in
theorem OwnV.of_row {w:World}{base E sz:Nat}{v:Value}{n:Nat}{xs:List Value}(h:w.ownsRow base E sz v n xs):OwnV w E sz v n xs:=by
 have hl:=h.1;rcases h.2 with⟨rfl,rfl⟩|⟨g,cap,cur,rfl,cT,hg,Ls,JS,eV,ht⟩
 ·have:xs=[]:=X4 (by simpa using hl);subst this;exact .nil
 ·rcases ZG cap with h0|h0
  ·subst h0;have hn:n=0:=aa;subst hn;have:xs=[]:=X4 (by simpa using hl);subst this;exact .zero _
  ·exact .row g n cap cur xs h0 hg Ls JS eV hl ht
omit hd in
theorem cR {a:Addr}{n cap:Nat}(h:0 < cap):di (.slice (some a) n cap)=some a.block:=by
 obtain⟨cap,rfl⟩:∃c,cap=c+1:=⟨cap - 1,by omega⟩;rfl
omit hd in
theorem tv {P:Program}{w:World}(t ty e:TypeId)(i:TypeInfo)(z:Value)(size bytes:Nat)(ht:P.underlying t=some (.slice e))(hi:P.info? e=some i)(hz:i.zero=some z)
 (nx:i.size=size) (EO:i.bytes=bytes) (Ow:z.cells.size=size) (cL:0 < size) (v:Value) (n:Nat) (xs:List Value) (bj:OwnV w e size v n xs)
 (a:Addr) (m c:Nat) (news:List Value) (hl:news.length=m*size) (wZ:∀j u,news[j]? =some u->w.cell? (a.add j)=some u) (h1:∀u∈news,u.oneCell'=true)
 (VS:n+m<=maxLen) (sX:(n+m)*bytes<=140737488355328):
 ∃v' w',(Builtin.append_ #[t,t] ty #[v,.slice (some a) m c]).run P w= .ok v' w'/\OwnV w' e size v' (n+m) (xs++news)/\OneB w w' (di v)/\(di v'=di v\/∀b,di v'=some b->w.heap.size<=b):=by
 have main:∀u,w.ownsRow 0 e size u n xs->(u= .slice none 0 0\/∃g cap,0 < cap/\u= .slice (some ⟨g,0,none⟩) n cap)->
  ∃v' w',(Builtin.append_ #[t,t] ty #[u,.slice (some a) m c]).run P w= .ok v' w'/\OwnV w' e size v' (n+m) (xs++news)/\OneB w w' (di u)/\(di v'=di u\/∀b,di v'=some b->w.heap.size<=b):=by
  intro u hu hk;obtain⟨v',w',cr,cV,H4,-⟩:=run_append_own (P:=P) w 0 t ty e i z size bytes ht hi hz nx EO Ow cL u n xs hu a m c news hl wZ h1 VS sX (XD _);have Oy:=Dr (P:=P) (w:=w) 0 t ty e i z size bytes ht hi hz nx EO Ow cL u n xs hu a m c news hl wZ h1 VS sX cr;have hb:u.ownBlock=di u:=by
   rcases hk with rfl|⟨g,cap,h0,rfl⟩
   ·rfl
   ·rw[cR h0];rfl
  have iO:∀b,di v'=some b->v'.ownBlock=some b:=by
   intro b hb;cases v' with
   |slice ao k cap=>
    cases ao with
    |none=>cases hb
    |some ad=>cases cap with
     |zero=>cases hb
     |succ cap=>exact hb
   |_=>cases hb
  refine⟨v',w',cr,.of_row cV,⟨H4.os,H4.tape,H4.output,H4.size,fun b hb' bH=>H4.block b hb' (fun e=>bH (by rw[<-hb];exact e.symm))⟩,?_⟩;rcases Oy with hw|hw
  ·by_cases HE:∃b,di v'=some b
   ·obtain⟨b,R3⟩:=HE;exact .inl (by rw[<-hb,<-hw,R3,iO b R3])
   ·exact .inr fun b hb=>absurd ⟨b,hb⟩ HE
  ·exact .inr fun b hb=>hw b (iO b hb)
 cases bj with
 |nil=>exact main _ (I' w 0 e size) (.inl rfl)
 |row g n cap cur xs h0 hh hn hm hs hl ht=>exact main _ ⟨hl,.inr ⟨g,cap,cur,rfl,XD _,hh,hn,hm,hs,ht⟩⟩ (.inr ⟨g,cap,h0,rfl⟩)
 |zero ad=>
  by_cases hm:m=0
  ·subst hm;have hn:news=[]:=X4 (by simpa using hl);subst hn;refine⟨.slice (some ad) 0 0,w,?_,.zero ad,⟨rfl,rfl,rfl,Xz _,fun _ _ _=>rfl⟩,.inl rfl⟩;simp[Builtin.append_,run_underlying ht,sizeOf,typeInfo,hi,Builtin.lenOf,Builtin.firstCells,loadCells,loadCellsFrom,storeCells]
  ·simp only[maxLen]at VS;have pJ:=run_append_nil (P:=P) w t ty e i z ht hi hz a m c news (by rw[nx];exact hl) wZ aa aa (by rw[EO];simp only[XE]at sX;omega);have hg:=run_append_grow (P:=P) w t ty e i z ht hi hz ad 0 0 [] ah (fun j v h=>by simp at h) a m c news (by rw[nx];exact hl) wZ aa aa
    (by rw[EO];exact growslice_fits aa sX)
   obtain⟨v',w',g1,g2,g3,g4⟩:=main _ (I' w 0 e size) (.inl rfl);rw[pJ]at g1;simp only[XE]at hg;have e2:(#[]++news.toArray++Builtin.zeroCells z.cells (grownCap w m 0 e - m))=news.toArray++Builtin.zeroCells z.cells (grownCap w m 0 e - m):=ah;rw[show ([]:List Value).toArray=#[] from rfl,e2,g1]at hg;exact⟨v',w',hg,g2,g3,g4⟩
omit hd in
theorem nS {P:Program}{w:World}(t ty e:TypeId)(i:TypeInfo)(size:Nat)(ht:P.underlying t=some (.slice e))(hi:P.info? e=some i)(v:Value)(n:Nat)(xs:List Value)(bj:OwnV w e size v n xs)(c:Nat):
 (Builtin.append_ #[t,t] ty #[v,.slice none 0 c]).run P w= .ok v w:=by
 cases bj with
 |nil=>simp[Builtin.append_,run_underlying ht,sizeOf,typeInfo,hi,Builtin.lenOf,Builtin.firstCells]
 |zero a=>simp[Builtin.append_,run_underlying ht,sizeOf,typeInfo,hi,Builtin.lenOf,Builtin.firstCells,storeCells]
 |row g n cap cur xs h0 hh hn hm hs hl jd=>simp[Builtin.append_,run_underlying ht,sizeOf,typeInfo,hi,Builtin.lenOf,Builtin.firstCells,hn,storeCells]
omit hd in
theorem jo {rows:List (List D)}{r:List PV}(h:r∈ab rows):∃q∈rows,r=q.map .d:=by
 obtain⟨q,hq,rfl⟩:=XN.1 h;exact⟨q,hq,rfl⟩
omit hd in
theorem rI (rows:List (List D)):(ab rows).flatten=rows.flatten.map .d:=by
 simp[ab,List.map_flatten]
inductive SrcP (s:FS) (sz:Nat):PV->List (List PV)->List Nat->Prop
 |sl (news:List (List D)):SrcP s sz (.d (.sl sz news)) (ab news) []
 |nil (ao:Option Addr) (c:Nat):SrcP s sz (.d (.v (.slice ao 0 c))) [] []
 |own (k g E:Nat) (rows:List (List PV)) (h:s.heap k= .row E sz g rows):SrcP s sz (.own k g) rows [k]
 |osl (k g E a n:Nat) (rows:List (List PV)) (h:s.heap k= .row E sz g rows):SrcP s sz (.osl k g sz a n) ((rows.drop a).take n) [k]
omit hd in
theorem lH {α:Type}{sz:Nat}:∀{rows:List (List α)},(∀r∈rows,r.length=sz)->∀a,(rows.drop a).flatten=rows.flatten.drop (a*sz)
 |rows,_,0=>by simp
 |[],_,a+1=>by simp
 |r::rows,h,a+1=>by
  have hr:=h r ah;rw[List.drop_succ_cons,lH (fun r hr=>h r (by simp[hr])) a,YL,YP,List.drop_append,List.drop_of_length_le (l:=r) aa,Yb,hr];congr 1;omega
omit hd in
theorem jG {α:Type}{sz:Nat}:∀{rows:List (List α)},(∀r∈rows,r.length=sz)->∀a,(rows.take a).flatten=rows.flatten.take (a*sz)
 |rows,_,0=>by simp
 |[],_,a+1=>by simp
 |r::rows,h,a+1=>by
  have hr:=h r ah;rw[ZS,YL,YL,jG (fun r hr=>h r (by simp[hr])) a,YP,List.take_append,XG (l:=r) aa,hr];congr 2;omega
omit hd in
theorem Ir {s s':FS}{sz:Nat}{y:PV}{news:List (List PV)}{ty:List Nat}(h:SrcP s sz y news ty)(AA:0 < sz)(jf:∀k∈ty,s'.heap k=s.heap k){a:Act}{w:World}{c:Cx}(hc:RealC X s' a w c){v:Value}(hr:RepP c w y v):
 (∀r∈news,r.length=sz)/\(∀r∈news,∀d∈r,d.one=true)/\((∃c0,v= .slice none 0 c0/\news=[])\/
  ∃(ad:Addr) (cap:Nat) (ys:List Value),v= .slice (some ad) news.length cap/\ys.length=news.length*sz/\(∀j u,ys[j]? =some u->w.cell? (ad.add j)=some u)/\(∀u∈ys,u.oneCell'=true)/\bI c w news.flatten ys):=by
 cases h with
 |sl news=>
  have hr:=cn hr;have some_case:∀(ad:Addr) (n cap:Nat),RepD c.M w (.sl sz news) (.slice (some ad) n cap)->_:=fun ad n cap h=>ym AA h;have rows_ok:(∀r∈news,r.length=sz)->(∀r∈news,∀d∈r,d.one=true)->(∀r∈ab news,r.length=sz)/\(∀r∈ab news,∀d∈r,d.one=true):=fun g1 g2=>by
   refine⟨fun r hr=>?_,fun r hr d hd=>?_⟩
   ·obtain⟨q,hq,rfl⟩:=jo hr;simpa using g1 q hq
   ·obtain⟨q,hq,rfl⟩:=jo hr;obtain⟨x,hx,rfl⟩:=XN.1 hd;exact g2 q hq x hx
  have bB:(ab news).length=news.length:=by simp[ab]
  cases hr with
  |nil _ ao cap hm=>
   refine⟨fun r h=>by simp[ab]at h,fun r h=>by simp[ab]at h,?_⟩;cases ao with
   |none=>exact .inl ⟨cap,rfl,rfl⟩
   |some ad=>exact .inr ⟨ad,cap,[],rfl,by simp[ab],fun j u h=>by simp at h,fun u h=>by simp at h,⟨rfl,fun j d x h=>by simp[ab]at h⟩⟩
  |sl _ _ b off cap f a1 a2 a3 a4 a5 a6 a7 a8=>
   obtain⟨ys,y1,-,y2,y3,y4,y5,y6⟩:=ym (w:=w) AA (RepD.sl (M:=c.M) sz news b off cap f a1 a2 a3 a4 a5 a6 a7 a8);obtain⟨q1,q2⟩:=rows_ok y5 y6;exact⟨q1,q2,.inr ⟨⟨b,off,none⟩,cap,ys,by rw[bB],by rw[bB];exact y1,y3,y4,by rw[rI];exact qN y2⟩⟩
 |nil ao c=>
  have hr:=cn hr;cases hr;cases ao with
  |none=>exact⟨fun r h=>by simp at h,fun r h=>by simp at h,.inl ⟨c,rfl,rfl⟩⟩
  |some ad=>exact⟨fun r h=>by simp at h,fun r h=>by simp at h,.inr ⟨ad,c,[],rfl,by simp,fun j u h=>by simp at h,fun u h=>by simp at h,⟨rfl,fun j d x h=>by simp at h⟩⟩⟩
 |own k g E rows hk=>
  have bp:=hc.chunk k;rw[jf k ah,hk]at bp;cases hr with
  |own _ _ _ ep _=>
   cases bp with
   |row _ _ _ _ u xs hu bj oG cL h1 hg=>
    rw[ep]at hu;cases hu;refine⟨cL,h1,?_⟩;have dL:=bI.one oG (fun d hd=>by obtain⟨r,hr,hd⟩:=C'.1 hd;exact h1 r hr d hd);generalize hn:news.length=n' at bj;cases bj with
    |nil=>exact .inl ⟨0,rfl,X4 hn⟩
    |zero ad=>exact .inr ⟨ad,0,[],rfl,by simp,fun j u h=>by simp at h,fun u h=>by simp at h,oG⟩
    |row gb _ cap cur _ h0 hh Ls hm hs hl ht=>
     refine .inr ⟨⟨gb,0,none⟩,cap,xs,rfl,hl,fun j u hj=>?_,dL,oG⟩;rw[Addr.add_lit];have hlt:j < n'*sz:=by rw[<-hl];exact(Xn.1 hj).1
     rw[<-ht,XP hlt,X6]at hj;simp[YU,hh,hj]
 |osl k g E st m rows hk=>
  have bp:=hc.chunk k;rw[jf k ah,hk]at bp;cases hr with
  |osl _ _ _ _ _ b o N cap ep hn VU ho=>
   cases bp with
   |row _ _ _ _ u xs hu bj oG cL h1 hg=>
    rw[ep]at hu;cases hu;have dL:=bI.one oG (fun d hd=>by obtain⟨r,hr,hd⟩:=C'.1 hd;exact h1 r hr d hd);refine⟨fun r hr=>cL r (Yc (Yd hr)),fun r hr=>h1 r (Yc (Yd hr)),.inr ⟨⟨b,o,none⟩,cap - st,(xs.drop (st*sz)).take (m*sz),?_⟩⟩;have hN:N=rows.length:=by
     have:=bj;generalize rows.length=n' at this;cases this<;>rfl
    have rW:((rows.drop st).take m).length=m:=by rw[Xp,XS];omega
    have H2:=bj.len;have a0m:(st+m)*sz<=rows.length*sz:=Yt sz aa;rw[ZC]at a0m;refine⟨by rw[rW],by rw[rW,Xp,XS];omega,fun j u hj=>?_,fun u hu=>dL u (Yc (Yd hu)),?_⟩
    ·have hlt:j < m*sz:=by
      have:=(Xn.1 hj).1;rw[Xp]at this;omega
     rw[XP hlt,Yl]at hj;have hm0:0 < m:=by
      rcases ZG m with h|h
      ·subst h;simp at hlt
      ·exact h
     rw[Addr.add_lit,ho aa];generalize hnn:rows.length=n' at bj;cases bj with
     |zero=>simp at hnn;omega
     |row _ _ _ cur _ h0 hh Ls hm hs hl ht=>
      rw[<-ht,XP (by rw[hnn]at a0m;omega),X6]at hj;simp[YU,hh,hj]
    ·rw[jG (fun r hr=>cL r (Yc hr)),lH cL];exact oG.part _ _
omit hd in
theorem uP {c:Cx}{w:World}{ds es:List PV}{vs us:List Value}(h:bI c w ds vs)(g:bI c w es us):bI c w (ds++es) (vs++us):=by
 refine⟨by simp[h.1,g.1],fun j d x hj hx=>?_⟩;by_cases hlt:j < ds.length
 ·rw[X5 hlt]at hj;rw[X5 (by rw[<-h.1];exact hlt)]at hx;exact h.2 j d x hj hx
 ·rw[XH aa]at hj;rw[XH (by rw[<-h.1];omega),<-h.1]at hx;exact g.2 _ d x hj hx
theorem L5 {t e k sz g:Nat}{x y:Operand}{ti te:TI}{rows news:List (List PV)}{tyy:List Nat}(ho:o.op= .call {callee:= .builtin .append,args:=#[x,y],argTypes:=#[t,t]})(ht:aW X.P t=some ti)(he':ti.elem=some e)(iH:aW X.P e=some te)
 (cL:te.size=sz) (AA:0 < sz) (hx:ev s x= .own k g) (hk:s.heap k= .row e sz g rows) (hy:SrcP s sz (ev s y) news tyy)
 (bB:rows.length+news.length<=9223372036854775807) (EO:(rows.length+news.length)*te.bytes<=140737488355328):
 bO X ops s o {pv:= .own k (g+1),eff:=[(k,.row e sz (g+1) (rows++news))],touch:=k::tyy}:=
 en hd (fun kc h=>by simp at h;subst h;simp) fun s' he jf a w c hc=>by
  have e1:=bR hc x;rw[he x (by simp[ho,Op.operands,Call.operands]),hx]at e1;have e2:=bR hc y;rw[he y (by simp[ho,Op.operands,Call.operands])]at e2;have hk':s'.heap k= .row e sz g rows:=by rw[jf k ah];exact hk
  have bp:=hc.chunk k;rw[hk']at bp;obtain⟨i,d,z,tk⟩:=jg ht;obtain⟨ie,de,ze,tke⟩:=jg iH;have ly:d= .slice e:=a3C
  subst ly;have Ow:ze.cells.size=sz:=by rw[<-cL,<-tke.zsize,<-tke.zcells];simp
  have HH:∀u v,a.eval x=u->a.eval y=v->∀v' w',(Builtin.append_ #[t,t] o.type #[u,v]).run X.P w= .ok v' w'->(execOp a.eval o).run X.P w= .ok (.value v') w':=by
   intro u v hu hv v' w' hr;simp[execOp,ho,resolve,hu,hv,invoke,builtin,hr]
  generalize hu:a.eval x=u at e1;generalize hv:a.eval y=v at e2;obtain⟨n1,n2,uw⟩:=Ir hy AA (fun k hk=>jf k (Y1 _ hk)) hc e2;cases e1 with
  |own _ _ _ ep ry=>
   cases bp with
   |row _ _ _ _ u' xs hu' bj hr Va h1 hg=>
    rw[ep]at hu';cases hu';rcases uw with⟨c0,rfl,rfl⟩|⟨ad,cap,ys,rfl,y1,y2,y3,y4⟩
    ·have cr:=nS (P:=X.P) t o.type e ie sz tk.und tke.info u rows.length xs bj c0;obtain⟨c',q1,q2⟩:=hc.set_row (w':=w) (rows':=rows++[]) (v':=u) (xs':=xs) hk' ep ⟨rfl,rfl,rfl,Xz _,fun _ _ _=>rfl⟩ (by rw[Yi];exact bj) (.inl rfl) (by rw[Yi];exact hr)
      (by rw[Yi];exact Va) (by rw[Yi];exact h1)
     exact⟨_,_,_,HH _ _ hu hv _ _ cr,.inl rfl,c',q1,q2⟩
    ·obtain⟨v',w',cr,cV,H4,Oy⟩:=tv (P:=X.P) (w:=w) t o.type e ie ze sz te.bytes tk.und tke.info tke.zero (tke.size.trans cL) tke.bytes Ow AA u rows.length xs bj ad news.length cap ys y1 y2 y3 (by unfold maxLen;exact bB) EO;obtain⟨c',q1,q2⟩:=hc.set_row (w':=w') (rows':=rows++news) (v':=v') (xs':=xs++ys) hk' ep H4 (by rw[Xv];exact cV) Oy (by rw[_b];exact uP hr y4)
      (fun r hr'=>(X0.1 hr').elim (Va r) (n1 r)) (fun r hr'=>(X0.1 hr').elim (h1 r) (n2 r))
     exact⟨_,_,_,HH _ _ hu hv _ _ cr,.inl rfl,c',q1,q2⟩
theorem Ds {t e nk sz:Nat}{x y:Operand}{ti te:TI}{news:List (List PV)}{tyy:List Nat}(ho:o.op= .call {callee:= .builtin .append,args:=#[x,y],argTypes:=#[t,t]})(ht:aW X.P t=some ti)(he':ti.elem=some e)(iH:aW X.P e=some te)
 (cL:te.size=sz) (AA:0 < sz) (hx:ev s x= .d (.v (.slice none 0 0))) (hk:s.heap nk= .none) (wY:¬nk < X.m) (hy:SrcP s sz (ev s y) news tyy)
 (bB:news.length<=9223372036854775807) (EO:news.length*te.bytes<=140737488355328):
 bO X ops s o {pv:= .own nk 0,eff:=[(nk,.row e sz 0 news)],touch:=nk::tyy}:=
 en hd (fun kc h=>by simp at h;subst h;simp) fun s' he jf a w c hc=>by
  have e2:=bR hc y;rw[he y (by simp[ho,Op.operands,Call.operands])]at e2;have hk':s'.heap nk= .none:=by rw[jf nk ah];exact hk
  have hu:=dt hc ((he x (by simp[ho,Op.operands,Call.operands])).trans hx);obtain⟨i,d,z,tk⟩:=jg ht;obtain⟨ie,de,ze,tke⟩:=jg iH;have ly:d= .slice e:=a3C
  subst ly;have Ow:ze.cells.size=sz:=by rw[<-cL,<-tke.zsize,<-tke.zcells];simp
  generalize hv:a.eval y=v at e2;have HH:∀v' w',(Builtin.append_ #[t,t] o.type #[.slice none 0 0,v]).run X.P w= .ok v' w'->(execOp a.eval o).run X.P w= .ok (.value v') w':=by
   intro v' w' hr;simp[execOp,ho,resolve,hu,hv,invoke,builtin,hr]
  obtain⟨n1,n2,uw⟩:=Ir hy AA (fun k hk=>jf k (Y1 _ hk)) hc e2;rcases uw with⟨c0,rfl,rfl⟩|⟨ad,cap,ys,rfl,y1,y2,y3,y4⟩
  ·have cr:=nS (P:=X.P) (w:=w) t o.type e ie sz tk.und tke.info (.slice none 0 0) 0 [] .nil c0;obtain⟨c',q1,q2⟩:=hc.new_row (w':=w) hk' wY e sz [] (.slice none 0 0) [] (Below.refl _ _) .nil (fun b h=>by cases h) ⟨rfl,fun j d x h=>by simp at h⟩ ah ah;exact⟨_,_,_,HH _ _ cr,.inl rfl,c',q1,q2⟩
  ·obtain⟨v',w',cr,cV,H4,Oy⟩:=tv (P:=X.P) (w:=w) t o.type e ie ze sz te.bytes tk.und tke.info tke.zero (tke.size.trans cL) tke.bytes Ow AA (.slice none 0 0) 0 [] .nil ad news.length cap ys y1 y2 y3 uG (by rw[XE];exact EO);have hx':cM w w':=⟨H4.os,H4.tape,H4.output,H4.size,fun b hb=>H4.block b hb (fun h=>by cases h)⟩;obtain⟨c',q1,q2⟩:=hc.new_row (w':=w') hk' wY e sz news v' ys hx' (by rw[XE,Yb]at cV;exact cV) (fun b hb=>by
    rcases Oy with h0|h0
    ·rw[h0]at hb;cases hb
    ·exact h0 b hb) y4 n1 n2
   exact⟨_,_,_,HH _ _ cr,.inl rfl,c',q1,q2⟩
omit hd in
theorem Is {α:Type}{l m xs:List α}{off:Nat}(h:off+xs.length<=l.length):aB (l++m) off xs=aB l off xs++m:=by
 unfold aB;rw[Ym aa,List.drop_append_of_le_length aa];simp
omit hd in
theorem Fd {α:Type}{l m xs:List α}{off:Nat}:aB (l++m) (l.length+off) xs=l++aB m off xs:=by
 unfold aB;rw[List.take_append,List.drop_append];rw[XG aa,List.drop_of_length_le aa];simp only[Yb,XV];rw[show l.length+off - l.length=off by omega,show l.length+off+xs.length - l.length=off+xs.length by omega]
omit hd in
theorem ww {α:Type}{sz:Nat}:∀{rows:List (List α)},(∀r∈rows,r.length=sz)->∀{i j:Nat}{row ps:List α},rows[i]? =some row->j+ps.length<=sz->(rows.set i (aB row j ps)).flatten=aB rows.flatten (i*sz+j) ps
 |[],_,i,j,row,ps,h,_=>by simp at h
 |r::rows,hl,0,j,row,ps,h,hj=>by
  simp at h;subst h;rw[XQ,YL,YL,Nat.zero_mul,XE,Is (by rw[hl r ah];exact hj)]
 |r::rows,hl,i+1,j,row,ps,h,hj=>by
  rw[XZ,YL,YL,ww (fun r hr=>hl r (by simp[hr])) (by simpa using h) hj];have hr:=hl r ah;rw[show (i+1)*sz+j=r.length+(i*sz+j) by rw[YP];omega,Fd]
omit hd in
theorem yn {α:Type}{l xs:List α}{off n:Nat}(h:off+xs.length<=n)(hn:n<=l.length):(aB l off xs).take n=aB (l.take n) off xs:=by
 apply Yj;intro j;rw[jn (by rw[Xp];omega)];by_cases hj:j < n
 ·rw[XP hj,jn aa,XP hj]
 ·rw[XR (by rw[Xp];omega),af aa,XR (by rw[Xp];omega)]
theorem Iu {t k g sz i j E:Nat}{x y:Operand}{ti:TI}{rows:List (List PV)}{row:List PV}(ho:o.op= .store t x y)(vW:o.dst=none)(ht:aW X.P t=some ti)(hx:ev s x= .rp k g sz i j)(hk:s.heap k= .row E sz g rows)(bV:rows[i]? =some row)(hy:BM (ev s y)=true)
 (hl:(cX (ev s y)).length=ti.size) (cL:j+ti.size<=sz):bO X ops s o {pv:= .any,eff:=[(k,.row E sz g (rows.set i (aB row j (cX (ev s y)))))],touch:=[k]}:=
 en hd (fun kc h=>by simp at h;subst h;simp) fun s' he jf a w c hc=>by
  have e1:=bR hc x;rw[he x (by simp[ho,Op.operands]),hx]at e1;have e2:=bR hc y;rw[he y (by simp[ho,Op.operands])]at e2;obtain⟨r1,r2⟩:=lT e2 hy;have dL:=bI.one r1 r2;have hk':s'.heap k= .row E sz g rows:=by rw[jf k ah];exact hk
  have bp:=hc.chunk k;rw[hk']at bp;generalize hu:a.eval x=u at e1;cases e1 with
  |rp _ _ _ _ _ b n cap hb=>
   have bH:rows≠[]:=fun e=>by rw[e]at bV;cases bV
   obtain⟨cur,xs,q1,q2,q3,q4,q5,q6,q7,q8,q9,q10,q11⟩:=eH bp hb bH;have hi:i < rows.length:=(Xn.1 bV).1;have Ev:(i+1)*sz<=rows.length*sz:=Yt sz hi;rw[YP]at Ev;obtain⟨ii,d,z,tk⟩:=jg ht;have uv:(a.eval y).cells.size=ti.size:=by have:=r1.1;simp at this;omega
   have ec:=run_storeCells_at X.P b (i*sz+j) E (a.eval y).cells.toList 0 cur w q1 aK dL;have rz:(storeCells ⟨b,i*sz+j,none⟩ (a.eval y).cells.toList).run X.P w= .ok () (w.setRow b (aB cur.toList (i*sz+j) (a.eval y).cells.toList).toArray):=by
    rw[ec];simp[aB]
   have cr:(Instr.storeAt t (a.eval x) (a.eval y)).run X.P w= .ok () (w.setRow b (aB cur.toList (i*sz+j) (a.eval y).cells.toList).toArray):=a5o
   have HI:0 < cap:=aa;have bN:(aB cur.toList (i*sz+j) (a.eval y).cells.toList).length=cur.size:=by rw[bw aK];simp
   have Ov:xs=cur.toList.take (rows.length*sz):=a4I
   have rV:(aB xs (i*sz+j) (a.eval y).cells.toList).length=rows.length*sz:=by rw[bw aK];exact q3
   have jc:=hc.put_row (w':=w.setRow b (aB cur.toList (i*sz+j) (a.eval y).cells.toList).toArray) (rows':=rows.set i (aB row j (cX (ev s y)))) (xs':=aB xs (i*sz+j) (a.eval y).cells.toList) hk' hb
    ⟨rfl,rfl,rfl,by simp[ZU],fun b' _ R4=>by
     rw[cR HI]at R4;simp only[ZU,Y3];rw[af (fun e=>R4 (by rw[e]))]⟩
    (by
     rw[YX,q7];exact .row b rows.length cap _ _ HI (setRow_heap w b _ _ E _ q1) aa q9 (by simp[bN,q11]) rV (by
      rw[Y6,yn aK aK,<-Ov]))
    (by rw[ww q5 bV aa];exact nQ q2 r1 (by rw[q2.1];omega))
    (fun r hr=>by
     rcases Y9 hr with h|rfl
     ·exact q5 r h
     ·rw[bw (by rw[q5 row (Xl bV)];omega)];exact q5 row (Xl bV))
    (fun r hr d hd=>by
     rcases Y9 hr with h|rfl
     ·exact q6 r h d hd
     ·exact(lU hd).elim (q6 row (Xl bV) d) (r2 d))
   refine⟨.skip,undef,_,?_,.inr ⟨rfl,rfl⟩,c,jc,.any _⟩;simp only[execOp,ho];rw[Sem.run_bind,cr];rfl
end
theorem a4J {p:Prop}(h:p:=by
 rename_i k n e;have:=dt hc (XW.inj e);split at h
 ·rename_i h0;have h:=XW.inj h;exact⟨k,by rw[this,<-h,A' h0]⟩
 ·cases h):p:=h
section
variable {X:Cfg}{ops:Array Oper}{s:FS}{o:Oper}(hd:∀d,o.dst=some d->d < X.n)
theorem AW {α:Type}{sz:Nat}{rows news:List (List α)}(h:∀r∈rows,r.length=sz)(hn:∀r∈news,r.length=sz)(i:Nat):(aB rows i news).flatten=aB rows.flatten (i*sz) news.flatten:=by
 unfold aB;rw[_b,_b,jG h,lH h,cO hn,ZC]
theorem AX (z:Array Value)(n:Nat):(Builtin.zeroCells z n).toList=(XY n z.toList).flatten:=by
 have hl:(Builtin.zeroCells z n).toList.length=n*z.size:=by simp[Builtin.zeroCells]
 have hr:∀r∈XY n z.toList,r.length=z.size:=fun r hr=>by rw[ZH hr];simp
 have Lt:(XY n z.toList).flatten.length=n*z.size:=by rw[cO hr];simp
 apply Yj;intro i;by_cases hi:i < n*z.size
 ·have h0:0 < z.size:=by
   rcases ZG z.size with h|h
   ·rw[h]at hi;omega
   ·exact h
  have e1:i / z.size < n:=ZK (by rw[ZA];exact hi);have e2:i % z.size < z.size:=Nat.mod_lt _ h0;have e3:i / z.size*z.size+i % z.size=i:=by rw[ZA];exact Nat.div_add_mod i z.size
  have e4:=cD hr (i / z.size) (i % z.size) e2;rw[e3,List.getElem?_replicate,aj e1]at e4;rw[e4];simp[Builtin.zeroCells,hi,e2]
 ·rw[XR aa,XR aa]
theorem RealC.write_rows {a:Act}{w:World}{c:Cx}(hc:RealC X s a w c){k E sz g:Nat}{rows:List (List PV)}(hk:s.heap k= .row E sz g rows){b n cap:Nat}(hb:c.ov k g=some (.slice (some ⟨b,0,none⟩) n cap))(bH:rows≠[])
 (i:Nat) (news:List (List PV)) (ys:List Value) (hr:bI c w news.flatten ys) (hi:i+news.length<=rows.length) (Vb:∀r∈news,r.length=sz) (h1n:∀r∈news,∀d∈r,d.one=true):
 ∃w',(storeCells ⟨b,i*sz,none⟩ ys).run X.P w= .ok () w'/\RealC X {s with heap:=cH [(k,.row E sz g (aB rows i news))] s.heap} a w' c:=by
 have bp:=hc.chunk k;rw[hk]at bp;obtain⟨cur,xs,q1,q2,q3,q4,q5,q6,q7,q8,q9,q10,q11⟩:=eH bp hb bH;have dL:=bI.one hr (fun d hd=>by obtain⟨r,hr,hd⟩:=C'.1 hd;exact h1n r hr d hd);have uv:ys.length=news.length*sz:=by rw[<-hr.1,cO Vb]
 have Ev:(i+news.length)*sz<=rows.length*sz:=Yt sz hi;rw[ZC]at Ev;have ec:=run_storeCells_at X.P b (i*sz) E ys 0 cur w q1 aK dL;have rz:(storeCells ⟨b,i*sz,none⟩ ys).run X.P w= .ok () (w.setRow b (aB cur.toList (i*sz) ys).toArray):=by
  rw[ec];simp[aB]
 have HI:0 < cap:=by
  have:0 < rows.length:=Zl.2 bH;omega
 have bN:(aB cur.toList (i*sz) ys).length=cur.size:=by rw[bw aK];simp
 have Ov:xs=cur.toList.take (rows.length*sz):=a4I
 have rV:(aB xs (i*sz) ys).length=rows.length*sz:=by rw[bw aa];exact q3
 refine⟨_,rz,hc.put_row (rows':=aB rows i news) (xs':=aB xs (i*sz) ys) hk hb ⟨rfl,rfl,rfl,by simp[ZU],fun b' _ R4=>by
  rw[cR HI]at R4;simp only[ZU,Y3];rw[af (fun e=>R4 (by rw[e]))]⟩ ?_ ?_ ?_ ?_⟩
 ·rw[bw hi,q7];exact .row b rows.length cap _ _ HI (setRow_heap w b _ _ E _ q1) aa q9 (by simp[bN,q11]) rV (by
   rw[Y6,yn aa aK,<-Ov])
 ·rw[AW q5 Vb];exact nQ q2 hr (by rw[q2.1,cO Vb];omega)
 ·exact fun r hr=>(lU hr).elim (q5 r) (Vb r)
 ·exact fun r hr=>(lU hr).elim (q6 r) (h1n r)
include hd
theorem Dt {t e k sz g n:Nat}{x y:Operand}{ti te:TI}{rows news:List (List PV)}{tyy:List Nat}(ho:o.op= .call {callee:= .builtin .append,args:=#[x,y],argTypes:=#[t,t]})(ht:aW X.P t=some ti)(he':ti.elem=some e)(iH:aW X.P e=some te)
 (cL:te.size=sz) (AA:0 < sz) (hx:ev s x= .osl k g sz 0 n) (hk:s.heap k= .row e sz g rows) (bH:rows≠[]) (hy:SrcP s sz (ev s y) news tyy) (d9:n+news.length<=rows.length):
 bO X ops s o {pv:= .osl k g sz 0 (n+news.length),eff:=[(k,.row e sz g (aB rows n news))],touch:=k::tyy}:=
 en hd (fun kc h=>by simp at h;subst h;simp) fun s' he jf a w c hc=>by
  have e1:=bR hc x;rw[he x (by simp[ho,Op.operands,Call.operands]),hx]at e1;have e2:=bR hc y;rw[he y (by simp[ho,Op.operands,Call.operands])]at e2;have hk':s'.heap k= .row e sz g rows:=by rw[jf k ah];exact hk
  obtain⟨i,d,z,tk⟩:=jg ht;obtain⟨ie,de,ze,tke⟩:=jg iH;have ly:d= .slice e:=a3C
  subst ly;generalize hu:a.eval x=u at e1;generalize hv:a.eval y=v at e2;obtain⟨n1,n2,uw⟩:=Ir hy AA (fun k hk=>jf k (Y1 _ hk)) hc e2;cases e1 with
  |osl _ _ _ _ _ b oo N cap ep hn VU R5=>
   have C5:0 < rows.length:=Zl.2 bH;have bp:=hc.chunk k;rw[hk']at bp;obtain⟨cur,xs,q1,q2,q3,q4,q5,q6,q7,q8,q9,q10,q11⟩:=eH bp ep bH;obtain rfl:oo=0:=by rw[R5 aa];simp
   rcases uw with⟨c0,rfl,rfl⟩|⟨ad,cap',ys,rfl,uv,ck,dL,oG⟩
   ·obtain⟨w',ec,oD⟩:=hc.write_rows hk' ep bH n [] [] ⟨rfl,fun j d x h=>by simp at h⟩ (by simpa using d9) (fun r h=>by simp at h) (fun r h=>by simp at h);have hw:w'=w:=by simpa[storeCells]using ec.symm
    subst hw;refine⟨_,.slice (some ⟨b,0,none⟩) n (cap - 0),w',?_,.inl rfl,c,oD,?_⟩
    ·simp[execOp,ho,resolve,hu,hv,invoke,builtin,Builtin.append_,run_underlying tk.und,sizeOf,typeInfo,tke.info,Builtin.lenOf,Builtin.firstCells,storeCells,(by omega:n<=cap)]
    ·exact .osl k g sz 0 n b 0 N cap ep aa VU (fun _=>by simp)
   ·obtain⟨w',ec,oD⟩:=hc.write_rows hk' ep bH n news ys oG d9 n1 n2;have hfc:=run_firstCells_some (P:=X.P) w sz news.length ad news.length cap' ys uv ck;refine⟨_,.slice (some ⟨b,0,none⟩) (n+news.length) (cap - 0),w',?_,.inl rfl,c,oD,?_⟩
    ·have jD:n+news.length<=cap:=aa;have hty:∀ty,(Builtin.append_ #[t,t] ty #[.slice (some ⟨b,0,none⟩) n (cap - 0),.slice (some ad) news.length cap']).run X.P w= .ok (.slice (some ⟨b,0,none⟩) (n+news.length) (cap - 0)) w':=by
      intro ty;simp[Builtin.append_,run_underlying tk.und,sizeOf,typeInfo,tke.info,tke.size,cL,Builtin.lenOf,jD,hfc,Addr.add_lit,ec]
     simp only[Zj]at hty;simp[execOp,ho,resolve,hu,hv,invoke,builtin,hty]
    ·exact .osl k g sz 0 _ b 0 N cap ep aa VU (fun _=>by simp)
theorem Fe {t e k sz g st n:Nat}{x:Operand}{ti te:TI}{rows:List (List PV)}(ho:o.op= .call {callee:= .builtin .clear,args:=#[x],argTypes:=#[t]})(ht:aW X.P t=some ti)(he':ti.elem=some e)(iH:aW X.P e=some te)
 (cL:te.size=sz) (hx:ev s x= .osl k g sz st n) (hk:s.heap k= .row e sz g rows) (bH:rows≠[]) (d9:st+n<=rows.length):
 bO X ops s o {pv:= .d (.v (.tuple #[])),eff:=[(k,.row e sz g (aB rows st (XY n (te.zero.map fun x=> .d (.v x)))))],touch:=[k]}:=
 en hd (fun kc h=>by simp at h;subst h;simp) fun s' he jf a w c hc=>by
  have e1:=bR hc x;rw[he x (by simp[ho,Op.operands,Call.operands]),hx]at e1;have hk':s'.heap k= .row e sz g rows:=by rw[jf k ah];exact hk
  obtain⟨i,d,z,tk⟩:=jg ht;obtain⟨ie,de,ze,tke⟩:=jg iH;have ly:d= .slice e:=a3C
  subst ly;generalize hu:a.eval x=u at e1;have VV:te.zero.length=sz:=by rw[tke.zsize,cL]
  have mW:∀x∈te.zero,x.oneCell'=true:=tke.one;cases e1 with
  |osl _ _ _ _ _ b oo N cap ep hn VU R5=>
   cases n with
   |zero=>
    have jc:aB rows st (XY 0 (te.zero.map fun x=>PV.d (.v x)))=rows:=by simp[aB]
    refine⟨_,.tuple #[],w,?_,.inl rfl,c,?_,.d _ _ (.v _)⟩
    ·simp[execOp,ho,resolve,hu,invoke,builtin,Builtin.clear_,run_underlying tk.und]
    ·rw[jc];have:({env:=s'.env,heap:=cH [(k,.row e sz g rows)] s'.heap}:FS)=s':=by
      cases s' with
      |mk env heap=>
       simp only[FS.mk.injEq,true_and];funext k';rw[tn];show (if k'=k then _ else heap k')=heap k';split
       ·rename_i e;subst e;exact hk'.symm
       ·rfl
     rw[this];exact hc
   |succ n=>
    have C5:0 < rows.length:=Zl.2 bH;obtain rfl:oo=st*sz:=R5 aa;obtain⟨w',ec,oD⟩:=hc.write_rows hk' ep bH st (XY (n+1) (te.zero.map fun x=> .d (.v x))) (XY (n+1) te.zero).flatten
     ⟨by simp[List.map_replicate],fun j d x hj hx=>by
      have e2:(XY (n+1) (te.zero.map fun x=>PV.d (.v x))).flatten=(XY (n+1) te.zero).flatten.map fun x=>PV.d (.v x):=by rw[List.map_flatten,List.map_replicate]
      rw[e2,Xy,hx]at hj;cases hj;exact .d _ _ (.v _)⟩
     (by simpa using d9) (fun r hr=>by rw[ZH hr];simpa using VV)
     (fun r hr d hd=>by
      rw[ZH hr]at hd;obtain⟨x,hx,rfl⟩:=XN.1 hd;exact mW x hx)
    refine⟨_,.tuple #[],w',?_,.inl rfl,c,oD,.d _ _ (.v _)⟩;have VW:(Builtin.zeroCells ze.cells (n+1)).toList=(XY (n+1) te.zero).flatten:=by
     rw[<-tke.zcells];exact AX ze.cells (n+1)
    simp[execOp,ho,resolve,hu,invoke,builtin,Builtin.clear_,run_underlying tk.und,zeroValue,typeInfo,tke.info,tke.zero,VW,ec]
def J9:Option PV->Option Nat
 |none=>some 0
 |some (.d (.v (.int _ n)))=>if 0<=n then some n.toNat else none
 |_=>none
def Ka (len:Nat):Option PV->Option Nat
 |none=>some len
 |some (.d (.v (.int _ n)))=>if 0<=n then some n.toNat else none
 |_=>none
omit hd in
theorem pW {P:Program}{t e sz:Nat}{ie:TypeInfo}(ht:P.underlying t=some (.slice e))(hi:P.info? e=some ie)(cL:ie.size=sz)(w:World)(a:Option Addr)(len cap:Nat)(lo hi:Option Value)(l h:Nat)
 (j0:(lo=none/\l=0)\/∃k,lo=some (.int k l)) (lh:(hi=none/\h=len)\/∃k,hi=some (.int k h)) (h1:l<=h) (h2:h<=cap):
 (Instr.sliceAt t (.slice a len cap) lo hi none).run P w= .ok (.slice (if cap=l then a else a.map (·.add (l*sz))) (h - l) (cap - l)) w:=by
 have e1:(0:Int)<=(l:Int):=aa;have e2:(0:Int)<=(h:Int):=aa;have e3:(l:Int)<=(h:Int):=aa;have e4:(h:Int)<=(cap:Int):=aa;rcases j0 with⟨rfl,rfl⟩|⟨k,rfl⟩<;>rcases lh with⟨rfl,rfl⟩|⟨k',rfl⟩<;>
  simp[Instr.sliceAt,Instr.slice,run_underlying ht,Instr.sliceBounds,Instr.sliceBound,asIntOf,sizeOf,typeInfo,hi,cL,e1,e2,e3,e4,h1,h2,Nat.not_lt.2 h1,Nat.not_lt.2 h2,Nat.not_lt.2 (Yy h1 h2),Yy h1 h2]
omit hd in
theorem L6 {P:Program}{t e sz:Nat}{ie:TypeInfo}(ht:P.underlying t=some (.slice e))(hi:P.info? e=some ie)(cL:ie.size=sz)(w:World)(a:Option Addr)(len cap:Nat)(k1 k2 k3:IntKind)(l h m:Nat)
 (h1:l<=h) (h2:h<=m) (h3:m<=cap):∃v,(Instr.sliceAt t (.slice a len cap) (some (.int k1 l)) (some (.int k2 h)) (some (.int k3 m))).run P w= .ok v w:=by
 have e1:(0:Int)<=(l:Int):=aa;have e2:(0:Int)<=(h:Int):=aa;have e3:(l:Int)<=(h:Int):=aa;have e4:(h:Int)<=(m:Int):=aa;have e5:(0:Int)<=(m:Int):=aa;have e6:(m:Int)<=(cap:Int):=aa;simp[Instr.sliceAt,Instr.slice,run_underlying ht,Instr.sliceBounds,Instr.sliceBound,asIntOf,sizeOf,typeInfo,hi,cL,e1,e2,e3,e4,e5,e6,h1,h2,h3]
omit hd in
theorem pX {s':FS}{a:Act}{w:World}{c:Cx}(hc:RealC X s' a w c){lo:Option Operand}{l:Nat}(h:J9 (lo.map (ev s'))=some l):((lo.map a.eval)=none/\l=0)\/∃k,lo.map a.eval=some (.int k l):=by
 cases lo with
 |none=>exact .inl ⟨rfl,by simpa[J9]using h.symm⟩
 |some x=>
  right;simp only[Yg]at h ⊢;unfold J9 at h;split at h
  ·rename_i e;cases e
  ·exact a4J
  ·cases h
omit hd in
theorem pY {s':FS}{a:Act}{w:World}{c:Cx}(hc:RealC X s' a w c){lo:Option Operand}{len l:Nat}(h:Ka len (lo.map (ev s'))=some l):((lo.map a.eval)=none/\l=len)\/∃k,lo.map a.eval=some (.int k l):=by
 cases lo with
 |none=>exact .inl ⟨rfl,by simpa[Ka]using h.symm⟩
 |some x=>
  right;simp only[Yg]at h ⊢;unfold Ka at h;split at h
  ·rename_i e;cases e
  ·exact a4J
  ·cases h
omit hd in
theorem yo {s':FS}{lo:Option Operand}(h:∀x,lo=some x->ev s' x=ev s x):lo.map (ev s')=lo.map (ev s):=by
 cases lo with
 |none=>rfl
 |some x=>simp[h x rfl]
theorem Ma {t e sz:Nat}{x:Operand}{lo hi:Option Operand}{ti te:TI}{rows:List (List D)}{l h:Nat}(ho:o.op= .slice t x lo hi none)(ht:aW X.P t=some ti)(he':ti.elem=some e)(iH:aW X.P e=some te)(cL:te.size=sz)
 (hx:ev s x= .d (.sl sz rows)) (j0:J9 (lo.map (ev s))=some l) (lh:Ka rows.length (hi.map (ev s))=some h) (h1:l<=h) (h2:h<=rows.length):bO X ops s o {pv:= .d (.sl sz ((rows.take h).drop l))}:=
 aN hd fun s' he _ a w c hc=>by
  have e1:=bR hc x;rw[he x (by simp[ho,Op.operands]),hx]at e1;rw[<-yo (s:=s) (s':=s') (fun y hy=>he y (by simp[ho,Op.operands,hy]))]at j0 lh;have b1:=pX hc j0;have b2:=pY hc lh;generalize hu:a.eval x=u at e1;have e1:=cn e1;obtain⟨i,d,z,tk⟩:=jg ht;obtain⟨ie,de,ze,tke⟩:=jg iH;have ly:d= .slice e:=a3C
  subst ly;cases e1 with
  |nil _ ao cap hm=>
   have hr:=pW tk.und tke.info (tke.size.trans cL) w ao 0 cap _ _ l h b1 b2 h1 (by simp at h2;omega);refine⟨_,by simp only[execOp,ho,hu,Zq];rw[Sem.run_bind,hr];rfl,.d _ _ ?_⟩;simp only[XX,Nat.le_zero]at h2;subst h2;simp only[Zb,List.drop_nil];rw[Nat.zero_sub];exact .nil _ _ _ aa
  |sl _ _ b off cap f hM hb gU hm hr h1' ck bC=>
   have hr':=pW tk.und tke.info (tke.size.trans cL) w (some ⟨b,off,none⟩) rows.length cap _ _ l h b1 b2 h1 aa;refine⟨_,by simp only[execOp,ho,hu,Zq];rw[Sem.run_bind,hr'];rfl,.d _ _ ?_⟩;have hl:((rows.take h).drop l).length=h - l:=by rw[XS,Xp];omega
   by_cases a2z:cap=l
   ·obtain rfl:h=l:=aa;have:(rows.take h).drop h=[]:=X4 (by rw[hl];omega);rw[this,YF];exact .nil _ _ _ aa
   ·rw[af a2z,<-hl];simp only[Yg,Addr.add_lit];have JO:∀i row,((rows.take h).drop l)[i]? =some row->rows[l+i]? =some row:=by
     intro i row hi;rw[Yl]at hi;have:=(Xn.1 hi).1;rw[Xp]at this;rwa [XP aa]at hi
    refine .sl sz _ b (off+l*sz) (cap - l) (fun i j=>f (l+i) j) hM hb aa aa (fun r hr0=>hr r (Yd (Yc hr0))) (fun r hr0=>h1' r (Yd (Yc hr0))) (fun i j hi hj=>?_) (fun i j row d hi hj=>bC _ _ row d (JO i row hi) hj);have:=ck (l+i) j aa hj;rw[ZC]at this;rw[<-this];congr 2;omega
theorem Ff {t e k g sz:Nat}{x:Operand}{lo hi:Option Operand}{ti te:TI}{rows:List (List PV)}{l h:Nat}(ho:o.op= .slice t x lo hi none)(ht:aW X.P t=some ti)(he':ti.elem=some e)(iH:aW X.P e=some te)(cL:te.size=sz)
 (hx:ev s x= .own k g) (hk:s.heap k= .row e sz g rows) (bH:rows≠[]) (j0:J9 (lo.map (ev s))=some l) (lh:Ka rows.length (hi.map (ev s))=some h) (h1:l<=h) (h2:h<=rows.length):bO X ops s o {pv:= .osl k g sz l (h - l),touch:=[k]}:=
 aN hd fun s' he jf a w c hc=>by
  have e1:=bR hc x;rw[he x (by simp[ho,Op.operands]),hx]at e1;rw[<-yo (s:=s) (s':=s') (fun y hy=>he y (by simp[ho,Op.operands,hy]))]at j0 lh;have b1:=pX hc j0;have b2:=pY hc lh;have bp:=hc.chunk k;rw[jf k ah,hk]at bp;generalize hu:a.eval x=u at e1;obtain⟨i,d,z,tk⟩:=jg ht;obtain⟨ie,de,ze,tke⟩:=jg iH;have ly:d= .slice e:=a3C
  subst ly;cases e1 with
  |own _ _ _ ep ry=>
   obtain⟨b,cap,rfl⟩:=nR bp ep bH;obtain⟨cur,xs,q1,q2,q3,q4,q5,q6,q7,q8,q9,q10,q11⟩:=eH bp ep bH;have hr':=pW tk.und tke.info (tke.size.trans cL) w (some ⟨b,0,none⟩) rows.length cap _ _ l h b1 b2 h1 aa;refine⟨_,by simp only[execOp,ho,hu,Zq];rw[Sem.run_bind,hr'];rfl,?_⟩;by_cases gU:cap=l
   ·rw[aj gU];exact .osl k g sz l (h - l) b 0 _ cap ep aa q10 aa
   ·rw[af gU];simp only[Yg,Addr.add_lit,XE];exact .osl k g sz l (h - l) b _ _ cap ep aa q10 (fun _=>rfl)
theorem Du {t e k g sz:Nat}{x:Operand}{lo hi:Option Operand}{ti te:TI}(ho:o.op= .slice t x lo hi none)(ht:aW X.P t=some ti)(he':ti.elem=some e)(iH:aW X.P e=some te)(cL:te.size=sz)
 (hx:ev s x= .own k g) (hk:s.heap k= .row e sz g []) (j0:J9 (lo.map (ev s))=some 0) (lh:Ka 0 (hi.map (ev s))=some 0):bO X ops s o {pv:= .any,touch:=[k]}:=
 aN hd fun s' he jf a w c hc=>by
  have e1:=bR hc x;rw[he x (by simp[ho,Op.operands]),hx]at e1;rw[<-yo (s:=s) (s':=s') (fun y hy=>he y (by simp[ho,Op.operands,hy]))]at j0 lh;have b1:=pX hc j0;have b2:=pY hc lh;have bp:=hc.chunk k;rw[jf k ah,hk]at bp;generalize hu:a.eval x=u at e1;obtain⟨i,d,z,tk⟩:=jg ht;obtain⟨ie,de,ze,tke⟩:=jg iH;have ly:d= .slice e:=a3C
  subst ly;cases e1 with
  |own _ _ _ ep ry=>
   cases bp with
   |row _ _ _ _ u' xs hu' bj hr Va h1 hg=>
    rw[ep]at hu';cases hu';obtain⟨ao,cap,rfl⟩:∃ao cap,u= .slice ao 0 cap:=by
     simp only[XX]at bj;generalize hz:0=z at bj;cases bj with
     |nil=>exact⟨_,_,rfl⟩
     |zero=>exact⟨_,_,rfl⟩
     |row=>subst hz;exact⟨_,_,rfl⟩
    have hr':=pW tk.und tke.info (tke.size.trans cL) w ao 0 cap _ _ 0 0 b1 b2 (Xz _) (XD _);exact⟨_,by simp only[execOp,ho,hu,Zq];rw[Sem.run_bind,hr'];rfl,.any _⟩
theorem Fg {t e k g sz st n:Nat}{x:Operand}{lo hi:Option Operand}{ti te:TI}{rows:List (List PV)}{l h:Nat}(ho:o.op= .slice t x lo hi none)(ht:aW X.P t=some ti)(he':ti.elem=some e)(iH:aW X.P e=some te)(cL:te.size=sz)
 (hx:ev s x= .osl k g sz st n) (hk:s.heap k= .row e sz g rows) (bH:rows≠[]) (j0:J9 (lo.map (ev s))=some l) (lh:Ka n (hi.map (ev s))=some h) (h1:l<=h) (h2:st+h<=rows.length):bO X ops s o {pv:= .osl k g sz (st+l) (h - l),touch:=[k]}:=
 aN hd fun s' he jf a w c hc=>by
  have e1:=bR hc x;rw[he x (by simp[ho,Op.operands]),hx]at e1;rw[<-yo (s:=s) (s':=s') (fun y hy=>he y (by simp[ho,Op.operands,hy]))]at j0 lh;have b1:=pX hc j0;have b2:=pY hc lh;have bp:=hc.chunk k;rw[jf k ah,hk]at bp;generalize hu:a.eval x=u at e1;obtain⟨i,d,z,tk⟩:=jg ht;obtain⟨ie,de,ze,tke⟩:=jg iH;have ly:d= .slice e:=a3C
  subst ly;cases e1 with
  |osl _ _ _ _ _ b oo N cap ep hn VU R5=>
   obtain⟨cur,xs,q1,q2,q3,q4,q5,q6,q7,q8,q9,q10,q11⟩:=eH bp ep bH;have hr':=pW tk.und tke.info (tke.size.trans cL) w (some ⟨b,oo,none⟩) n (cap - st) _ _ l h b1 b2 h1 aa;refine⟨_,by simp only[execOp,ho,hu,Zq];rw[Sem.run_bind,hr'];rfl,?_⟩;rw[Nat.sub_sub];by_cases gU:cap - st=l
   ·rw[aj gU];exact .osl k g sz (st+l) (h - l) b oo _ cap ep aa q10 aa
   ·rw[af gU];simp only[Yg,Addr.add_lit];exact .osl k g sz (st+l) (h - l) b _ _ cap ep aa q10 (fun hlt=>by rw[R5 aa,ZC])
theorem Mb {t e k g sz:Nat}{x y1 y2 y3:Operand}{ti te:TI}{rows:List (List PV)}{k1 k2 k3:IntKind}{n1 n2 n3:Int}(ho:o.op= .slice t x (some y1) (some y2) (some y3))(ht:aW X.P t=some ti)(he':ti.elem=some e)(iH:aW X.P e=some te)(cL:te.size=sz)
 (hx:ev s x= .own k g) (hk:s.heap k= .row e sz g rows) (bH:rows≠[]) (Vc:ev s y1= .d (.v (.int k1 n1))) (SZ:ev s y2= .d (.v (.int k2 n2))) (hy3:ev s y3= .d (.v (.int k3 n3))) (h0:0<=n1) (h1:n1<=n2) (h2:n2<=n3) (h3:n3<=(rows.length:Int)):
 bO X ops s o {pv:= .any,touch:=[k]}:=
 aN hd fun s' he jf a w c hc=>by
  have e1:=bR hc x;rw[he x (by simp[ho,Op.operands]),hx]at e1;have b1:=dt hc ((he y1 (by simp[ho,Op.operands])).trans Vc);have b2:=dt hc ((he y2 (by simp[ho,Op.operands])).trans SZ);have b3:=dt hc ((he y3 (by simp[ho,Op.operands])).trans hy3);have bp:=hc.chunk k;rw[jf k ah,hk]at bp;generalize hu:a.eval x=u at e1;obtain⟨i,d,z,tk⟩:=jg ht;obtain⟨ie,de,ze,tke⟩:=jg iH;have ly:d= .slice e:=a3C
  subst ly;cases e1 with
  |own _ _ _ ep ry=>
   obtain⟨b,cap,rfl⟩:=nR bp ep bH;obtain⟨cur,xs,q1,q2,q3,q4,q5,q6,q7,q8,q9,q10,q11⟩:=eH bp ep bH;obtain⟨v,hr⟩:=L6 tk.und tke.info (tke.size.trans cL) w (some ⟨b,0,none⟩) rows.length cap k1 k2 k3 n1.toNat n2.toNat n3.toNat aa aa aa;rw[A' h0,A' aa,A' aa]at hr;exact⟨v,by simp only[execOp,ho,hu,Yg,b1,b2,b3];rw[Sem.run_bind,hr];rfl,.any _⟩
theorem Mc {t k g sz st n:Nat}{x:Operand}{e:Nat}{ti:TI}(ho:o.op= .call {callee:= .builtin .len,args:=#[x],argTypes:=#[t]})(ht:aW X.P t=some ti)(he':ti.elem=some e)(hx:ev s x= .osl k g sz st n):
 bO X ops s o {pv:= .d (.v (.int .i64 n))}:=
 aN hd fun s' he _ a w c hc=>by
  have e1:=bR hc x;rw[he x (by simp[ho,Op.operands,Call.operands]),hx]at e1;generalize hu:a.eval x=u at e1;obtain⟨i,dd,z,tk⟩:=jg ht;have ly:dd= .slice e:=a4K
  subst ly;cases e1 with
  |osl=>
   refine⟨.int .i64 n,?_,.d _ _ (.v _)⟩;simp[execOp,ho,hu,resolve,invoke,builtin,Builtin.len_,run_underlying tk.und,goInt]
theorem Fh {t e k g sz st m:Nat}{x y:Operand}{ti te:TI}{kd:IntKind}{n:Int}(ho:o.op= .indexAddr t x y)(ht:aW X.P t=some ti)(he':ti.elem=some e)(iH:aW X.P e=some te)(cL:te.size=sz)
 (hx:ev s x= .osl k g sz st m) (hy:ev s y= .d (.v (.int kd n))) (hn:0<=n) (hlt:n.toNat < m):bO X ops s o {pv:= .rp k g sz (st+n.toNat) 0}:=
 aN hd fun s' he _ a w c hc=>by
  have e1:=bR hc x;rw[he x (by simp[ho,Op.operands]),hx]at e1;have e2:=dt hc ((he y (by simp[ho,Op.operands])).trans hy);generalize hu:a.eval x=u at e1;obtain⟨i,d,z,tk⟩:=jg ht;obtain⟨ie,de,ze,tke⟩:=jg iH;have ly:d= .slice e:=a3C
  subst ly;cases e1 with
  |osl _ _ _ _ _ b oo N cap ep hnn VU R5=>
   have uu:0<=n/\n < (m:Int):=⟨hn,by omega⟩;refine⟨.pointer (some ⟨b,(st+n.toNat)*sz+0,none⟩),?_,.rp k g sz _ _ b _ cap ep⟩;rw[ZC,<-R5 aa];simp[execOp,ho,hu,e2,Instr.indexAt,asIntOf,run_underlying tk.und,uu,sizeOf,typeInfo,tke.info,tke.size,cL,Addr.add_lit]
end
theorem a4t {p:Prop}(h:p:=by
 have e:c.bl k=some b':=hb';refine⟨.inl (by rw[cz,<-hb];exact e),?_⟩;simp only[Array.size_setIfInBounds];exact(h.new k b' (by rw[cz,<-hb];exact e)).2):p:=h
theorem a6n {p:Prop}(h:p:=by
 simp only[execOp,ho,hu,hv,e3];rw[Sem.run_bind,cr];rfl):p:=h
def lV:List (List Int × Int)->List Int->Option Int
 |[],_=>none
 |(k,v)::l,ks=>if k=ks then some v else lV l ks
def nT:List (List Int × Int)->List Int->Int->List (List Int × Int)
 |[],ks,v=>[(ks,v)]
 |(k,x)::l,ks,v=>if k=ks then (ks,v)::l else (k,x)::nT l ks v
theorem iN:∀(l:List (List Int × Int)) (ks:List Int) (v:Int) (ks':List Int),lV (nT l ks v) ks'=if ks=ks' then some v else lV l ks'
 |[],ks,v,ks'=>rfl
 |(k,x)::l,ks,v,ks'=>by
  unfold nT;by_cases h:k=ks
  ·subst h;rw[aj rfl];by_cases h':k=ks'
   ·simp[lV,h']
   ·simp[lV,h']
  ·rw[af h];unfold lV;rw[iN l ks v ks'];by_cases h':k=ks'
   ·subst h';simp[Ne.symm h]
   ·simp[h']
theorem Kb {n:Nat}:∀{l:List (List Int × Int)}{ks:List Int}{v:Int},(∀kv∈l,kv.1.length=n)->ks.length=n->∀kv∈nT l ks v,kv.1.length=n
 |[],ks,v,_,hk=>fun kv h=>by simp[nT]at h;rw[h];exact hk
 |(k,x)::l,ks,v,hl,hk=>fun kv h=>by
  unfold nT at h;split at h
  ·rcases X2.1 h with rfl|h
   ·exact hk
   ·exact hl kv (by simp[h])
  ·rcases X2.1 h with rfl|h
   ·exact hl _ ah
   ·exact Kb (fun kv h=>hl kv (by simp[h])) hk kv h
def r9:List (List Int × Int)->List Int->Nat->Option (Nat × Value)
 |[],_,_=>none
 |(k,v)::l,ks,i=>if k=ks then some (i,.int .i64 v)else r9 l ks (i+1)
theorem Kc:∀(l:List (List Int × Int)) (ks:List Int) (i:Nat),(r9 l ks i).map (·.2)=(lV l ks).map (.int .i64)
 |[],_,_=>rfl
 |(k,v)::l,ks,i=>by
  unfold r9 lV;split
  ·rfl
  ·exact Kc l ks (i+1)
theorem BP (s:Bool):∀(l:List (List Int × Int)) (ks:List Int) (v:Int) (i j:Nat) (u:Value),r9 l ks i=some (j,u)->i<=j/\(∃e,(bA s l i)[j - i]? =some e/\e.key=j1 s ks)/\(bA s l i).modify (j - i) (fun e=>{e with key:=j1 s ks,val:= .int .i64 v})=bA s (nT l ks v) i/\(nT l ks v).length=l.length
 |[],_,_,_,_,_,h=>by cases h
 |(k,x)::l,ks,v,i,j,u,h=>by
  unfold r9 at h;by_cases hk:k=ks
  ·rw[aj hk]at h;cases h;subst hk;refine⟨Xz _,⟨_,by rw[YF];rfl,rfl⟩,?_,?_⟩
   ·rw[YF];simp[bA,nT]
   ·simp[nT]
  ·rw[af hk]at h;obtain⟨h1,⟨e,h2,h3⟩,h4,h5⟩:=BP s l ks v (i+1) j u h;have hj:j - i=(j - (i+1))+1:=aa;refine⟨by omega,⟨e,by rw[hj];simpa[bA]using h2,h3⟩,?_,?_⟩
   ·rw[hj];unfold nT;rw[af hk];simp only[bA,List.modify_succ_cons];rw[h4]
   ·unfold nT;rw[af hk];simp[h5]
theorem BQ (s:Bool):∀(l:List (List Int × Int)) (ks:List Int) (v:Int) (i:Nat),r9 l ks i=none->bA s (nT l ks v) i=bA s l i++[{key:=j1 s ks,val:= .int .i64 v,born:=i+l.length}]/\(nT l ks v).length=l.length+1
 |[],_,_,_,_=>⟨rfl,rfl⟩
 |(k,x)::l,ks,v,i,h=>by
  unfold r9 at h;by_cases hk:k=ks
  ·rw[aj hk]at h;cases h
  ·rw[af hk]at h;obtain⟨h1,h2⟩:=BQ s l ks v (i+1) h;unfold nT;rw[af hk];simp only[bA,h1,X9,Xx,h2,and_true];rw[show i+1+l.length=i+(l.length+1) by omega]
structure KeyOK (P:Program)(k n:Nat)(s:Bool):Prop where
 chk:∀(em:Bool) (w:World) (xs:List Int),xs.length=n->(Instr.checkKey em 10000 k (j1 s xs)).run P w= .ok () w
 fnd:∀(w:World) (ents:List (List Int × Int)) (xs:List Int),(∀kv∈ents,kv.1.length=n)->xs.length=n->(Instr.findKey k (j1 s xs) (bA s ents 0)).run P w= .ok (r9 ents xs 0) w
structure MapOK (P:Program)(t n:Nat)(s:Bool):Prop where
 ex:∃k e i,P.underlying t=some (.map k e)/\P.info? e=some i/\i.zero=some (.int .i64 0)/\KeyOK P k n s
theorem Iv {xs:List Int}(h:xs.length=1):∃a,xs=[a]:=by
 match xs,h with
 |[a],_=>exact⟨a,rfl⟩
theorem Md {P:Program}{k:Nat}(hk:P.underlying k=some (.int .i64)):KeyOK P k 1 false:=by
 refine⟨fun em w xs hx=>?_,fun w ents xs hn hx=>?_⟩
 ·obtain⟨a,rfl⟩:=Iv hx;exact MapKept.run_checkKey hk (by simp[j1,MapKept.IsKey]) em 9999
 ·obtain⟨a,rfl⟩:=Iv hx;refine MapKept.run_findKey hk ?_;have:∀(l:List (List Int × Int)) (i:Nat),(∀kv∈l,kv.1.length=1)->Instr.findNow (.int .i64) (.int .i64 a) (bA false l i) i=some (r9 l [a] i):=by
   intro l;induction l with
   |nil=>intro i _;rfl
   |cons kv l ih=>
    intro i hl;obtain⟨k,v⟩:=kv;obtain⟨c,rfl⟩:=Iv (hl (k,v) ah);have ih:=ih (i+1) (fun kv h=>hl kv (by simp[h]));by_cases h:c=a
    ·subst h;simp[bA,r9,Instr.findNow,Instr.sameNow,j1]
    ·have h':(a==c)=false:=by simpa using fun e=>h e.symm
     simp[bA,r9,Instr.findNow,Instr.sameNow,j1,h,ih];rw[h']
  exact this ents 0 hn
theorem O6 {P:Program}{k n:Nat}(hw:(match P.underlying k with|some (.array _ _)|some (.struct _)=>true|_=>false)=true)(hc:∀(em:Bool) (w:World) (xs:List Int),xs.length=n->(Instr.checkKey em 10000 k (j1 true xs)).run P w= .ok () w)
 (he:∀(w:World) (xs ys:List Int),xs.length=n->ys.length=n->(Op.equal k (j1 true xs) (j1 true ys)).run P w= .ok (xs==ys) w):KeyOK P k n true:=by
 refine⟨hc,fun w ents xs hn hx=>?_⟩;rw[run_findKey_eq w hw];have:∀(l:List (List Int × Int)) (i:Nat),(∀kv∈l,kv.1.length=n)->(Instr.findAsking k (j1 true xs) (bA true l i) i).run P w= .ok (r9 l xs i) w:=by
  intro l;induction l with
  |nil=>intro i _;rfl
  |cons kv l ih=>
   intro i hl;obtain⟨k',v⟩:=kv;have ih:=ih (i+1) (fun kv h=>hl kv (by simp[h]));have h0:=he w xs k' hx (hl (k',v) ah);simp only[bA,Instr.findAsking];rw[Sem.run_bind,h0];simp only[Result.andThen,r9];by_cases h:k'=xs
   ·subst h;simp
   ·have h':(xs==k')=false:=by simpa using fun e=>h e.symm
    rw[h',af h];exact ih
 exact this ents 0 hn
theorem BR {P:Program}{t k e:Nat}(ht:P.underlying t=some (.map k e))(hk:P.underlying k=some (.int .i64))(hz:(P.info? e).map (·.zero)=some (some (.int .i64 0))):MapOK P t 1 false:=by
 obtain⟨i,hi,hz⟩:=XJ.1 hz;exact⟨k,e,i,ht,hi,hz,Md hk⟩
theorem Iw {P:Program}{t n b:Nat}{s:Bool}(hm:MapOK P t n s){w:World}{ents:List (List Int × Int)}(hb:w.heap[b]? =some (.map (bA s ents 0).toArray ents.length))(hn:∀kv∈ents,kv.1.length=n){xs:List Int}(hx:xs.length=n)(ok:Bool):
 (Instr.lookup t (.map (some b)) (j1 s xs) ok).run P w= .ok (if ok then .tuple #[.int .i64 ((lV ents xs).getD 0),.bool (lV ents xs).isSome]else .int .i64 ((lV ents xs).getD 0)) w:=by
 obtain⟨k,e,i,ht,hi,hz,hk⟩:=hm.ex;have hl:=Kc ents xs 0;unfold Instr.lookup;simp only[Sem.run_bind,run_underlying ht,Result.andThen,MapKept.run_getObj_map hb,Sem.run_pure,hk.chk _ _ _ hx,hk.fnd _ _ _ hn hx];cases hf:r9 ents xs 0 with
 |none=>
  rw[hf]at hl;have hl':lV ents xs=none:=by
   cases h:lV ents xs with
   |none=>rfl
   |some v=>rw[h]at hl;cases hl
  rw[hl'];simp only[Sem.run_bind,zeroValue,typeInfo,run_program,hi,hz,Result.andThen,Sem.run_pure];cases ok<;>rfl
 |some iv=>
  rw[hf]at hl;cases h:lV ents xs with
  |none=>rw[h]at hl;cases hl
  |some v=>
   rw[h]at hl;simp only[Yg,XW.injEq]at hl;simp only[Sem.run_pure,Result.andThen,hl];cases ok<;>rfl
theorem Dv (s:Bool)(xs:List Int):Instr.sameBits 10000 (j1 s xs) (j1 s xs)=true:=by
 cases s with
 |false=>simp[j1,Instr.sameBits]
 |true=>
  have:∀(l:List Int),((l.map (Value.int .i64)).zip (l.map (Value.int .i64))).all (fun(x,y)=>Instr.sameBits 9999 x y)=true:=by
   intro l;induction l with
   |nil=>rfl
   |cons a l ih=>simp only[Xm,List.zip_cons_cons,List.all_cons,ih,YA];simp[Instr.sameBits]
  simp only[j1,if_true,Instr.sameBits,beq_self_eq_true,Ys];exact this xs
theorem AY {P:Program}{t n b:Nat}{s:Bool}(hm:MapOK P t n s){w:World}{ents:List (List Int × Int)}(hb:w.heap[b]? =some (.map (bA s ents 0).toArray ents.length))(hn:∀kv∈ents,kv.1.length=n){xs:List Int}(hx:xs.length=n)(v:Int):
 (Instr.mapUpdate t (.map (some b)) (j1 s xs) (.int .i64 v)).run P w= .ok () {w with heap:=w.heap.setIfInBounds b (.map (bA s (nT ents xs v) 0).toArray (nT ents xs v).length)}:=by
 obtain⟨k,e,i,ht,hi,hz,hk⟩:=hm.ex;unfold Instr.mapUpdate;simp only[Sem.run_bind,run_underlying ht,Result.andThen,MapKept.run_getObj_map hb,hk.chk _ _ _ hx,hk.fnd _ _ _ hn hx];cases hf:r9 ents xs 0 with
 |none=>
  obtain⟨h1,h2⟩:=BQ s ents xs v 0 hf;simp only[MapKept.run_setObj_map _ hb];rw[h1,h2];simp
 |some iv=>
  obtain⟨j,u⟩:=iv;obtain⟨-,⟨e0,h2,h3⟩,h4,h5⟩:=BP s ents xs v 0 j u hf;rw[Zj]at h2 h4;have h6:(bA s ents 0).toArray[j]? =some e0:=by simpa using h2
  simp only[Sem.run_bind,h6,Yg,Yp,h3,Instr.keyThatStays,Dv,if_true,Sem.run_pure,Result.andThen,MapKept.run_setObj_map _ hb];rw[h5,<-h4];simp
def Ix (s:Bool)(p:PV):Option (List Int):=
 match s,p with
 |false,.d (.v (.int .i64 a))=>some [a]
 |true,.d (.agg ds)=>rG ds
 |_,_=>none
theorem Fi {c:Cx}{w:World}{s:Bool}{p:PV}{xs:List Int}{v:Value}(h:Ix s p=some xs)(hr:RepP c w p v):v=j1 s xs:=by
 unfold Ix at h;split at h
 ·cases h;cases hr with|d _ _ hd=>cases hd;rfl
 ·cases hr with
  |d _ _ hd=>
   cases hd with
   |agg _ vs hl h1 bC=>
    rw[tr (xs:=xs) ⟨hl,bC⟩ h];simp[j1]
 ·cases h
theorem RealC.new_map {X:Cfg}{s:FS}{a:Act}{w:World}{c:Cx}(h:RealC X s a w c){k:Nat}(hk:s.heap k= .none)(wY:¬k < X.m)(n:Nat)(sB:Bool):
 ∃c',RealC X {s with heap:=cH [(k,.mp n sB [])] s.heap} a (w.alloc (.map #[] 0)) c'/\RepP c' (w.alloc (.map #[] 0)) (.mref k) (.map (some w.heap.size)):=by
 have bp:=h.chunk k;rw[hk]at bp;cases bp with
 |none Ax ho0=>
  have hx:=kk w (.map #[] 0);have cf:(fun k'=>if k'=k then some w.heap.size else c.bl k') k=some w.heap.size:=aj rfl;refine⟨{M:=fun b=>c.M b\/b=w.heap.size,bl:=fun k'=>if k'=k then some w.heap.size else c.bl k',ov:=c.ov},?_,.mref k _ cf⟩;have hle:c.le {M:=fun b=>c.M b\/b=w.heap.size,bl:=fun k'=>if k'=k then some w.heap.size else c.bl k',ov:=c.ov}:=
   ⟨fun k' b hb=>by
    have:k'≠k:=fun e=>by subst e;rw[Ax]at hb;cases hb
    show (if k'=k then some w.heap.size else c.bl k')=some b;rw[af this];exact hb,fun _ _ _ h=>h⟩
  refine h.new_chunk hk wY hx hle (fun k' bH=>af bH) (fun _ _=>rfl) (fun b=>?_) (fun b hb=>?_) (fun nu=>?_)
  ·exact a4f
  ·exact a4P
  ·exact .mp n sB [] w.heap.size cf (by simpa[bA]using kN w (.map #[] 0)) (fun _ h=>by simp at h)
theorem RealC.set_map {X:Cfg}{s:FS}{a:Act}{w:World}{c:Cx}(h:RealC X s a w c){k n b:Nat}{sB:Bool}{ents ents':List (List Int × Int)}(hk:s.heap k= .mp n sB ents)(hb:c.bl k=some b)(hh:w.heap[b]? =some (.map (bA sB ents 0).toArray ents.length))
 (hn:∀kv∈ents',kv.1.length=n):RealC X {s with heap:=cH [(k,.mp n sB ents')] s.heap} a {w with heap:=w.heap.setIfInBounds b (.map (bA sB ents' 0).toArray ents'.length)} c:=by
 have cz:c.block k (s.heap k)=some b:=by rw[hk];exact hb
 have ec:=MapKept.heap_set (o':= .map (bA sB ents' 0).toArray ents'.length) hh;refine h.turn c.le_refl rfl (fun _ _=>rfl) (fun _ _=>rfl) rfl rfl rfl ah (fun b' _ hb'=>ec.2 b' (fun e=>hb' (by rw[e];exact cz))) (fun b'=>?_) (fun b' hb'=>?_) (fun nu=>?_)
 ·exact a3F
 ·exact a4t
 ·exact .mp n sB ents' b hb ec.1 hn
section
variable {X:Cfg}{ops:Array Oper}{s:FS}{o:Oper}(hd:∀d,o.dst=some d->d < X.n)
include hd
theorem Iy {t nk n:Nat}{sB:Bool}(ho:o.op= .makeMap t none)(hk:s.heap nk= .none)(wY:¬nk < X.m):bO X ops s o {pv:= .mref nk,eff:=[(nk,.mp n sB [])],touch:=[nk]}:=
 en hd (fun kc h=>by simp at h;subst h;simp) fun s' he jf a w c hc=>by
  obtain⟨c',h1,h2⟩:=hc.new_map (k:=nk) (by rw[jf nk ah];exact hk) wY n sB;refine⟨_,_,_,?_,.inl rfl,c',h1,h2⟩;simp only[execOp,ho,Zq];rw[Sem.run_bind,run_makeMap];rfl
theorem Me {t k n:Nat}{sB ok:Bool}{m x:Operand}{ents:List (List Int × Int)}{xs:List Int}(ho:o.op= .lookup t m x ok)(hm:MapOK X.P t n sB)(hmr:ev s m= .mref k)(hk:s.heap k= .mp n sB ents)(hx:Ix sB (ev s x)=some xs)(hxn:xs.length=n):
 bO X ops s o {pv:=if ok then .d (.tup [.v (.int .i64 ((lV ents xs).getD 0)),.v (.bool (lV ents xs).isSome)])else .d (.v (.int .i64 ((lV ents xs).getD 0))),touch:=[k]}:=
 aN hd fun s' he jf a w c hc=>by
  have e1:=bR hc m;rw[he m (by simp[ho,Op.operands]),hmr]at e1;have e2:=bR hc x;rw[he x (by simp[ho,Op.operands])]at e2;have e3:=Fi hx e2;have hk':s'.heap k= .mp n sB ents:=by rw[jf k ah];exact hk
  have bp:=hc.chunk k;rw[hk']at bp;generalize hu:a.eval m=u at e1;cases e1 with
  |mref _ b hb=>
   cases bp with
   |mp _ _ _ b' hb' hh hn=>
    rw[hb]at hb';cases hb';have cr:=Iw hm hh hn hxn ok;refine⟨if ok then .tuple #[.int .i64 ((lV ents xs).getD 0),.bool (lV ents xs).isSome]else .int .i64 ((lV ents xs).getD 0),?_,?_⟩
    ·simp only[execOp,ho,hu,e3];rw[Sem.run_bind,cr];rfl
    ·cases ok with
     |false=>exact .d _ _ (.v _)
     |true=>
      refine .d _ _ (.tup _ [_,_] rfl ?_);intro j d y h1 h2;match j with
      |0=>simp at h1 h2;subst h1;subst h2;exact .v _
      |1=>simp at h1 h2;subst h1;subst h2;exact .v _
      |j+2=>simp at h1
theorem Dw {t k n:Nat}{sB:Bool}{m x y:Operand}{ents:List (List Int × Int)}{xs:List Int}{v:Int}(ho:o.op= .mapUpdate t m x y\/o.op= .insert t m x y)(vW:o.dst=none)(hm:MapOK X.P t n sB)(hmr:ev s m= .mref k)(hk:s.heap k= .mp n sB ents)(hx:Ix sB (ev s x)=some xs)(hxn:xs.length=n)
 (hy:ev s y= .d (.v (.int .i64 v))):bO X ops s o {pv:= .any,eff:=[(k,.mp n sB (nT ents xs v))],touch:=[k]}:=
 en hd (fun kc h=>by simp at h;subst h;simp) fun s' he jf a w c hc=>by
  have d9:m∈o.op.operands/\x∈o.op.operands/\y∈o.op.operands:=by rcases ho with ho|ho<;>simp[ho,Op.operands]
  have e1:=bR hc m;rw[he m d9.1,hmr]at e1;have e2:=bR hc x;rw[he x d9.2.1]at e2;have e3:=Fi hx e2;have e4:=bR hc y;rw[he y d9.2.2,hy]at e4;have hk':s'.heap k= .mp n sB ents:=by rw[jf k ah];exact hk
  have bp:=hc.chunk k;rw[hk']at bp;generalize hu:a.eval m=u at e1;generalize hv:a.eval y=vy at e4;cases e4 with
  |d _ _ e4=>
  cases e4;cases e1 with
  |mref _ b hb=>
   cases bp with
   |mp _ _ _ b' hb' hh hn=>
    rw[hb]at hb';cases hb';have cr:=AY hm hh hn hxn v;have h3:=hc.set_map hk' hb hh (Kb (v:=v) hn hxn);refine⟨.skip,undef,_,?_,.inr ⟨rfl,rfl⟩,c,h3,.any _⟩;rcases ho with ho|ho
    ·exact a6n
    ·exact a6n
end
theorem a3G {p:Prop}(h:p:=by
 have h0:=bR hc fo;rw[vY fo (.inl rfl)]at h0;rcases hf with hf|⟨cd,hf,rfl⟩
 ·rw[hf]at h0;generalize a.eval fo=u at h0;cases h0 with
  |clo _ _ vs hl bC=>exact⟨vs,rfl,hl,bC⟩
 ·rw[hf]at h0;generalize a.eval fo=u at h0;have h0:=cn h0;cases h0 with
  |clo _ _ vs hl bC=>
   refine⟨vs,rfl,by simpa using hl,fun j p x hj hx=>?_⟩;simp only[Xy,XJ]at hj;obtain⟨y,hy,rfl⟩:=hj;exact .d _ _ (bC j y x hy hx)):p:=h
theorem a3H {p:Prop}(h:p:=by
 have key:∀q∈caps,bx h' n q=bx h n q/\cY h' n q=cY h n q:=fun q hq=>fX n q fun k' hk'=>e k' (gp hq k' hk');simp only[bx,cY];rw[hU fun q hq=>(key q hq).1,kl fun q hq=>(key q hq).2];exact⟨rfl,rfl⟩):p:=h
theorem a4d {p:Prop}(h:p:=by
 rw[X5 (by simpa using hlt)]at hp hx;simp only[Xy,XJ]at hp hx;obtain⟨y,hy,rfl⟩:=hp;obtain⟨y',hy',rfl⟩:=hx;rw[hy]at hy';cases hy';have:=bR hc y;rwa [vY y (.inr (by simpa using Xl hy))]at this):p:=h
theorem a4k {p:Prop}(h:p:=by
 cases n with
 |zero=>cases hv
 |succ n=>
  simp only[bx]at hv;split at hv
  ·split at hv
   ·simp only[XJ]at hv;obtain⟨_,_,rfl⟩:=hv;rfl
   ·cases hv
  ·cases hv):p:=h
theorem a5w {p:Prop}(h:p:=by
 rw[XH (by simpa using hlt)]at hp hx;simp only[XB]at hp hx;exact sU _ p x hp hx):p:=h
def yp (P:Program)(f:Nat):Prop:=∀(args:Array Value) (w:World),(callFunc f args).run P w= .ok (.enter f args) w
def ai (P:Program)(f:Nat)(args:List D)(r:D):Prop:=
 yp P f/\∀(M:Nat->Prop) (w:World) (vs:List Value),(∀b,M b->b < w.heap.size)->AU M w->eE M w args vs->Calls P f vs.toArray w fun e w'=>∃v,e= .returned v/\RepD M w' r v/\cM w w'
def D.isV:D->Bool
 | .v _=>true
 |_=>false
def D.flat:D->Bool
 | .v _=>true
 | .agg l=>l.all D.isV
 | .tup l=>l.all fun d=>match d with| .v _=>true| .agg l=>l.all D.isV|_=>false
 |_=>false
theorem Kd {M M':Nat->Prop}{w w':World}{d:D}{v:Value}(h:RepD M w d v)(hf:d.isV=true):RepD M' w' d v:=by
 cases d<;>simp[D.isV]at hf;cases h;exact .v _
theorem O7 {M M':Nat->Prop}{w w':World}{d:D}{v:Value}(h:RepD M w d v)(hf:d.flat=true):RepD M' w' d v:=by
 cases h with
 |v=>exact .v _
 |agg cells vs hl h1 bC=>
  simp only[D.flat,XA]at hf;exact .agg cells vs hl h1 fun j d x hj hx=>Kd (bC j d x hj hx) (hf d (Xl hj))
 |tup ds vs hl bC=>
  simp only[D.flat,XA]at hf;refine .tup ds vs hl fun j d x hj hx=>?_;have h0:=bC j d x hj hx;have h1:=hf d (Xl hj);cases h0 with
  |v=>exact .v _
  |agg cells us hl' h1' qE=>
   simp only[XA]at h1;exact .agg cells us hl' h1' fun j d x hj hx=>Kd (qE j d x hj hx) (h1 d (Xl hj))
  |_=>simp at h1
 |_=>simp[D.flat]at hf
def cI (f:PV->Option D):List PV->Option (List D)
 |[]=>some []
 |p::l=>match f p,cI f l with|some d,some ds=>some (d::ds)|_,_=>none
def du (f:PV->Option D):List (List PV)->Option (List (List D))
 |[]=>some []
 |r::l=>match cI f r,du f l with|some d,some ds=>some (d::ds)|_,_=>none
def bx (h:Nat->Chunk):Nat->PV->Option D
 |_,.d x=>some x
 |n+1,.own k g=>match h k with| .row _ sz g' rows=>if g=g' then (du (bx h n) rows).map (.sl sz)else none|_=>none
 |n+1,.ptr k off=>match h k with| .box _ cells=>(cI (bx h n) (cells.drop off)).map .ept|_=>none
 |n+1,.rp k g sz i j=>match h k with| .row _ sz' g' rows=>if g=g'/\sz=sz' then (match rows[i]? with|some row=>(cI (bx h n) (row.drop j)).map .ept|none=>none)else none|_=>none
 |n+1,.osl k g sz a m=>match h k with| .row _ sz' g' rows=>if g=g'/\sz=sz'/\0 < rows.length then (du (bx h n) ((rows.drop a).take m)).map (.sl sz)else none|_=>none
 |n+1,.clo g caps=>(cI (bx h n) caps).map (.clo g)
 |n+1,.agg cells=>(cI (bx h n) cells).map .agg
 |n+1,.tup l=>(cI (bx h n) l).map .tup
 |_,_=>none
def j3 (f:PV->List Nat):List PV->List Nat
 |[]=>[]
 |p::l=>f p++j3 f l
def AZ (f:PV->List Nat):List (List PV)->List Nat
 |[]=>[]
 |r::l=>j3 f r++AZ f l
def cY (h:Nat->Chunk):Nat->PV->List Nat
 |_,.d _=>[]
 |n+1,.own k _=>k::(match h k with| .row _ _ _ rows=>AZ (cY h n) rows|_=>[])
 |n+1,.ptr k off=>k::(match h k with| .box _ cells=>j3 (cY h n) (cells.drop off)|_=>[])
 |n+1,.rp k _ _ i j=>k::(match h k with| .row _ _ _ rows=>j3 (cY h n) (((rows[i]?).getD []).drop j)|_=>[])
 |n+1,.osl k _ _ _ _=>k::(match h k with| .row _ _ _ rows=>AZ (cY h n) rows|_=>[])
 |n+1,.clo _ caps=>j3 (cY h n) caps
 |n+1,.agg cells=>j3 (cY h n) cells
 |n+1,.tup l=>j3 (cY h n) l
 |_,_=>[]
theorem oN (h:Nat->Chunk)(n:Nat)(x:D):bx h n (.d x)=some x:=by cases n<;>rfl
theorem O8 (h:Nat->Chunk)(n:Nat)(x:D):cY h n (.d x)=[]:=by cases n<;>rfl
theorem xG (h:Nat->Chunk)(n:Nat):∀(l:List D),cI (bx h n) (l.map .d)=some l
 |[]=>rfl
 |x::l=>by simp only[Xm,cI,oN,xG h n l]
theorem Dx (h:Nat->Chunk)(n:Nat):∀(l:List D),j3 (cY h n) (l.map .d)=[]
 |[]=>rfl
 |x::l=>by simp only[Xm,j3,O8,Dx h n l,Yi]
theorem eO (h:Nat->Chunk)(n:Nat):∀(l:List (List D)),du (bx h n) (ab l)=some l
 |[]=>rfl
 |x::l=>by
  have:=eO h n l;simp only[ab]at this;simp only[ab,Xm,du,xG,this]
theorem oO (h:Nat->Chunk)(n:Nat):∀(l:List (List D)),AZ (cY h n) (ab l)=[]
 |[]=>rfl
 |x::l=>by
  have:=oO h n l;simp only[ab]at this;simp only[ab,Xm,AZ,Dx,this,Yi]
theorem gp {f:PV->List Nat}:∀{l:List PV}{p:PV},p∈l->∀k∈f p,k∈j3 f l
 |q::l,p,h,k,hk=>by
  rcases X2.1 h with rfl|h
  ·exact N' _ hk
  ·exact List.mem_append_right _ (gp h k hk)
theorem pZ {f:PV->List Nat}:∀{l:List (List PV)}{r:List PV}{p:PV},r∈l->p∈r->∀k∈f p,k∈AZ f l
 |q::l,r,p,h,hp,k,hk=>by
  rcases X2.1 h with rfl|h
  ·exact N' _ (gp hp k hk)
  ·exact List.mem_append_right _ (pZ h hp k hk)
theorem hU {f f':PV->Option D}:∀{l:List PV},(∀p∈l,f' p=f p)->cI f' l=cI f l
 |[],_=>rfl
 |p::l,e=>by simp only[cI,e p ah,hU (l:=l) fun q hq=>e q (by simp[hq])]
theorem sa {f f':PV->Option D}:∀{l:List (List PV)},(∀r∈l,∀p∈r,f' p=f p)->du f' l=du f l
 |[],_=>rfl
 |r::l,e=>by simp only[du,hU (e r ah),sa (l:=l) fun q hq=>e q (by simp[hq])]
theorem kl {f f':PV->List Nat}:∀{l:List PV},(∀p∈l,f' p=f p)->j3 f' l=j3 f l
 |[],_=>rfl
 |p::l,e=>by simp only[j3,e p ah,kl (l:=l) fun q hq=>e q (by simp[hq])]
theorem uQ {f f':PV->List Nat}:∀{l:List (List PV)},(∀r∈l,∀p∈r,f' p=f p)->AZ f' l=AZ f l
 |[],_=>rfl
 |r::l,e=>by simp only[AZ,kl (e r ah),uQ (l:=l) fun q hq=>e q (by simp[hq])]
theorem fX {h h':Nat->Chunk}:∀(n:Nat) (p:PV),(∀k∈cY h n p,h' k=h k)->bx h' n p=bx h n p/\cY h' n p=cY h n p
 |0,p,_=>by cases p<;>exact⟨rfl,rfl⟩
 |n+1,p,e=>by
  cases p with
  |own k g=>
   have hk:=e k (by simp[cY]);simp only[bx,cY,hk];cases hb:h k with
   |row E sz g' rows=>
    have key:∀r∈rows,∀q∈r,bx h' n q=bx h n q/\cY h' n q=cY h n q:=fun r hr q hq=>fX n q fun k' hk'=>e k' (by
     simp only[cY,hb,X2];exact .inr (pZ hr hq k' hk'))
    simp only;rw[sa fun r hr q hq=>(key r hr q hq).1,uQ fun r hr q hq=>(key r hr q hq).2];exact⟨rfl,rfl⟩
   |_=>exact⟨rfl,rfl⟩
  |ptr k off=>
   have hk:=e k (by simp[cY]);simp only[bx,cY,hk];cases hb:h k with
   |box T cells=>
    have key:∀q∈cells.drop off,bx h' n q=bx h n q/\cY h' n q=cY h n q:=fun q hq=>fX n q fun k' hk'=>e k' (by
     simp only[cY,hb,X2];exact .inr (gp hq k' hk'))
    simp only;rw[hU fun q hq=>(key q hq).1,kl fun q hq=>(key q hq).2];exact⟨rfl,rfl⟩
   |_=>exact⟨rfl,rfl⟩
  |rp k g sz i j=>
   have hk:=e k (by simp[cY]);simp only[bx,cY,hk];cases hb:h k with
   |row E sz' g' rows=>
    have key:∀q∈((rows[i]?).getD []).drop j,bx h' n q=bx h n q/\cY h' n q=cY h n q:=fun q hq=>fX n q fun k' hk'=>e k' (by
     simp only[cY,hb,X2];exact .inr (gp hq k' hk'))
    simp only;refine⟨?_,by rw[kl fun q hq=>(key q hq).2]⟩;cases Lu:rows[i]? with
    |none=>rfl
    |some row=>
     rw[Lu]at key;simp only[Yp]at key;simp only;rw[hU fun q hq=>(key q hq).1]
   |_=>exact⟨rfl,rfl⟩
  |osl k g sz a m=>
   have hk:=e k (by simp[cY]);simp only[bx,cY,hk];cases hb:h k with
   |row E sz g' rows=>
    have key:∀r∈rows,∀q∈r,bx h' n q=bx h n q/\cY h' n q=cY h n q:=fun r hr q hq=>fX n q fun k' hk'=>e k' (by
     simp only[cY,hb,X2];exact .inr (pZ hr hq k' hk'))
    simp only;rw[sa (l:=(rows.drop a).take m) fun r hr q hq=>(key r (Yc (Yd hr)) q hq).1,uQ fun r hr q hq=>(key r hr q hq).2];exact⟨rfl,rfl⟩
   |_=>exact⟨rfl,rfl⟩
  |clo g caps=>exact a3H
  |agg caps=>exact a3H
  |tup caps=>exact a3H
  |_=>exact⟨rfl,rfl⟩
def m5 (c:Cx)(h:Nat->Chunk)(T:List Nat)(b:Nat):Prop:=c.M b/\∀k∈T,c.block k (h k)≠some b
theorem uR (c:Cx)(h:Nat->Chunk)(T:List Nat)(w:World):Keep c.M w (m5 c h T) w:=⟨Xz _,fun _ _ _=>rfl,fun _ _ h=>h.1⟩
theorem fG {f:PV->Option D}:∀{l:List PV}{ds:List D},cI f l=some ds->l.length=ds.length/\∀(j:Nat) (d:D),ds[j]? =some d->∃p,l[j]? =some p/\f p=some d
 |[],ds,h=>by simp[cI]at h;subst h;simp
 |p::l,ds,h=>by
  simp only[cI]at h;split at h
  ·rename_i d es h1 h2;cases h;obtain⟨q1,q2⟩:=fG h2;refine⟨by simp[q1],fun j e hj=>?_⟩;cases j with
   |zero=>simp at hj;subst hj;exact⟨p,rfl,h1⟩
   |succ j=>simpa using q2 j e (by simpa using hj)
  ·cases h
theorem yq {f:PV->Option D}:∀{l:List (List PV)}{ds:List (List D)},du f l=some ds->l.length=ds.length/\∀(j:Nat) (d:List D),ds[j]? =some d->∃p,l[j]? =some p/\cI f p=some d
 |[],ds,h=>by simp[du]at h;subst h;simp
 |p::l,ds,h=>by
  simp only[du]at h;split at h
  ·rename_i d es h1 h2;cases h;obtain⟨q1,q2⟩:=yq h2;refine⟨by simp[q1],fun j e hj=>?_⟩;cases j with
   |zero=>simp at hj;subst hj;exact⟨p,rfl,h1⟩
   |succ j=>simpa using q2 j e (by simpa using hj)
  ·cases h
theorem nU {h:Nat->Chunk}{n:Nat}{p:PV}{d:D}(hv:bx h n p=some d)(h1:p.one=true):d.one=true:=by
 cases p with
 |d x=>rw[oN]at hv;cases hv;exact h1
 |agg=>simp[PV.one]at h1
 |tup=>simp[PV.one]at h1
 |any=>simp[PV.one]at h1
 |own k g=>exact a4k
 |ptr k off=>
  cases n with
  |zero=>cases hv
  |succ n=>
   simp only[bx]at hv;split at hv
   ·simp only[XJ]at hv;obtain⟨_,_,rfl⟩:=hv;rfl
   ·cases hv
 |rp k g sz i j=>
  cases n with
  |zero=>cases hv
  |succ n=>
   simp only[bx]at hv;split at hv
   ·split at hv
    ·split at hv
     ·simp only[XJ]at hv;obtain⟨_,_,rfl⟩:=hv;rfl
     ·cases hv
    ·cases hv
   ·cases hv
 |clo g caps=>
  cases n with
  |zero=>cases hv
  |succ n=>simp only[bx,XJ]at hv;obtain⟨_,_,rfl⟩:=hv;rfl
 |osl k g sz a m=>exact a4k
 |mref=>cases n<;>cases hv
theorem nV {w:World}{b:Nat}{o:Obj}(h:w.heap[b]? =some o):b < w.heap.size:=by
 rcases XM b w.heap.size with hl|hl
 ·exact hl
 ·rw[Yo hl]at h;cases h
section
variable {X:Cfg}{s:FS}{a:Act}{w:World}{c:Cx}(hc:RealC X s a w c){T:List Nat}
include hc
theorem mb:∀(n:Nat) {p:PV}{d:D}{v:Value},bx s.heap n p=some d->(∀k∈cY s.heap n p,k∈T)->RepP c w p v->RepD (m5 c s.heap T) w d v
 |0,p,d,v,hv,ht,hr=>by
  cases p with
  |d x=>cases hv;exact(cn hr).keep (uR c s.heap T w)
  |_=>cases hv
 |n+1,p,d,v,hv,ht,hr=>by
  have many:∀(l:List PV) (ds:List D) (vs:List Value),cI (bx s.heap n) l=some ds->(∀k∈j3 (cY s.heap n) l,k∈T)->bI c w l vs->eE (m5 c s.heap T) w ds vs:=by
   intro l ds vs dP hT hl;obtain⟨q1,q2⟩:=fG dP;refine⟨by rw[<-q1];exact hl.1,fun j d x hj hx=>?_⟩;obtain⟨p,hp,AB⟩:=q2 j d hj;exact mb n AB (fun k hk=>hT k (gp (Xl hp) k hk)) (hl.2 j p x hp hx)
  cases p with
  |d x=>rw[oN]at hv;cases hv;exact(cn hr).keep (uR c s.heap T w)
  |own k g=>
   simp only[bx]at hv;split at hv
   ·rename_i E sz g' rows hk;split at hv
    ·rename_i e;subst e;simp only[XJ]at hv;obtain⟨drows,dP,rfl⟩:=hv;obtain⟨q1,q2⟩:=yq dP;have bp:=hc.chunk k;rw[hk]at bp;have hkT:k∈T:=ht k (by simp[cY]);have Az:∀r∈rows,∀p∈r,∀k'∈cY s.heap n p,k'∈T:=fun r hr p hp k' hk'=>ht k' (by
      simp only[cY,hk,X2];exact .inr (pZ hr hp k' hk'))
     cases hr with
     |own _ _ _ ep _=>
      cases bp with
      |row _ _ _ _ u xs hu bj oG cL h1 hg=>
       rw[ep]at hu;cases hu;generalize hn:rows.length=n' at bj;have nilc:n'=0->drows=[]:=fun h0=>X4 aa;cases bj with
       |nil=>rw[nilc rfl];exact .nil sz none 0 aa
       |zero ad=>rw[nilc rfl];exact .nil sz (some ad) 0 aa
       |row gb _ cap cur _ h0 hh Ls hm hs hl jd=>
        subst hn;have Ov:∀j,j < rows.length*sz->cur[j]? =xs[j]? :=by
         intro j hj;rw[<-jd,XP hj,X6]
        rw[q1];refine .sl sz drows gb 0 cap (fun i j=>xs.getD (i*sz+j) undef) (fun hm'=>hm'.2 k hkT (by rw[hk];simp[Cx.block,ep,cR h0])) (nV hh) aa (by simpa[maxLen]using hm) (fun r hr=>?_) (fun r hr d hd=>?_) (fun i j hi hj=>?_) (fun i j row d hi hj=>?_)
        ·obtain⟨j,hj,e⟩:=Ya hr;obtain⟨p,hp,AB⟩:=q2 j r (by rw[<-e];exact Xk hj);rw[<-(fG AB).1];exact cL p (Xl hp)
        ·obtain⟨j,hj,e⟩:=Ya hr;obtain⟨p,hp,AB⟩:=q2 j r (by rw[<-e];exact Xk hj);obtain⟨j2,Oz,e2⟩:=Ya hd;obtain⟨p2,Lv,JT⟩:=(fG AB).2 j2 d (by rw[<-e2];exact Xk Oz);exact nU JT (h1 p (Xl hp) p2 (Xl Lv))
        ·have hij:i*sz+j < rows.length*sz:=by
          have:(i+1)*sz<=rows.length*sz:=Yt sz aa;rw[YP]at this;omega
         rw[XE];simp only[YU,hh,Ov _ hij];simp[XC,Xk (show i*sz+j < xs.length by omega)]
        ·obtain⟨p,hp,AB⟩:=q2 i row hi;obtain⟨p2,Lv,JT⟩:=(fG AB).2 j d hj;have hi':i < rows.length:=(Xn.1 hp).1;have hj':j < sz:=by rw[<-cL p (Xl hp)];exact(Xn.1 Lv).1
         have hij:i*sz+j < rows.length*sz:=by
          have:(i+1)*sz<=rows.length*sz:=Yt sz hi';rw[YP]at this;omega
         have hx:xs[i*sz+j]? =some xs[i*sz+j]:=Xk aa;have:=oG.2 (i*sz+j) p2 _ (by rw[cD cL i j hj',hp];exact Lv) hx;have:=mb n JT (Az p (Xl hp) p2 (Xl Lv)) this;simpa[XC,hx]using this
    ·cases hv
   ·cases hv
  |ptr k off=>
   simp only[bx]at hv;split at hv
   ·rename_i TT cells hk;simp only[XJ]at hv;obtain⟨ds,dP,rfl⟩:=hv;have bp:=hc.chunk k;rw[hk]at bp;cases hr with
    |ptr _ _ b hb=>
     cases bp with
     |box _ _ b' vs hb' hh oG h1=>
      rw[hb]at hb';cases hb';have H3:bI c w (cells.drop off) (vs.drop off):=⟨by rw[XS,XS,oG.1],fun j d x hj hx=>by
       rw[Yl]at hj hx;exact oG.2 _ d x hj hx⟩
      have hm:=many _ ds _ dP (fun k' hk'=>ht k' (by simp only[cY,hk,X2];exact .inr hk')) H3;obtain⟨q1,q2⟩:=fG dP;refine .ept ds b off (fun j=>(vs.drop off).getD j undef) (fun hm'=>hm'.2 k (ht k (by simp[cY])) (by rw[hk];exact hb)) (nV hh) (fun d hd=>?_) (fun j hj=>?_) (fun j d hj=>?_)
      ·obtain⟨j,hj,e⟩:=Ya hd;obtain⟨p,hp,AB⟩:=q2 j d (by rw[<-e];exact Xk hj);exact nU AB (h1 p (Yc (Xl hp)))
      ·have hl:off+j < vs.length:=by have:=H3.1;rw[XS,XS]at this;rw[<-q1,XS]at hj;have:=oG.1;omega
       simp[YU,hh,XC,Yl,Xk hl]
      ·have hl:j < (vs.drop off).length:=by rw[<-hm.1];exact(Xn.1 hj).1
       have:=hm.2 j d _ hj (Xk hl);simpa[XC,Xk hl]using this
   ·cases hv
  |rp k g sz i j=>
   simp only[bx]at hv;split at hv
   ·rename_i E sz' g' rows hk;split at hv
    ·rename_i e;obtain⟨rfl,rfl⟩:=e;split at hv
     ·rename_i row bV;simp only[XJ]at hv;obtain⟨ds,dP,rfl⟩:=hv;have bp:=hc.chunk k;rw[hk]at bp;cases hr with
      |rp _ _ _ _ _ b nn cap hb=>
       obtain⟨cur,xs,z1,z2,z3,z4,z5,z6,z7,z8,z9,z10,z11⟩:=eH bp hb (fun e=>by rw[e]at bV;cases bV);have hi:i < rows.length:=(Xn.1 bV).1;have C5:row.length=sz:=z5 row (Xl bV);have Ev:(i+1)*sz<=rows.length*sz:=Yt sz hi;rw[YP]at Ev;have pz:=Fc z2 z5 bV z3;generalize HB:(xs.drop (i*sz)).take sz=ys at pz;have uv:ys.length=sz:=by rw[<-pz.1,C5]
       have ck:∀j' v,ys[j']? =some v->cur[i*sz+j']? =some v:=by
        intro j' v hj';rw[<-HB]at hj';obtain⟨hlt,hj'⟩:=eZ hj';rw[z4 _ aa,hj']
       have H3:bI c w (row.drop j) (ys.drop j):=⟨by rw[XS,XS,pz.1],fun j d x hj hx=>by
        rw[Yl]at hj hx;exact pz.2 _ d x hj hx⟩
       have hm:=many _ ds _ dP (fun k' hk'=>ht k' (by simp only[cY,hk,bV,Yp,X2];exact .inr hk')) H3;obtain⟨q1,q2⟩:=fG dP;have ep:c.block k (s.heap k)=di (.slice (some ⟨b,0,none⟩) nn cap):=by rw[hk];simp[Cx.block,hb]
       refine .ept ds b (i*sz+j) (fun j'=>(ys.drop j).getD j' undef) (fun hm'=>hm'.2 k (ht k (by simp[cY])) (by rw[ep,cR aa])) (nV z1) (fun d hd=>?_) (fun j' hj'=>?_) (fun j' d hj'=>?_)
       ·obtain⟨j',hj',e⟩:=Ya hd;obtain⟨p,hp,AB⟩:=q2 j' d (by rw[<-e];exact Xk hj');exact nU AB (z6 row (Xl bV) p (Yc (Xl hp)))
       ·have hl:j+j' < ys.length:=by rw[<-q1,XS]at hj';omega
        have:=ck (j+j') _ (Xk hl);simp only[YU,z1];rw[Zh,this];simp[XC,Yl,Xk hl]
       ·have hl:j' < (ys.drop j).length:=by rw[<-hm.1];exact(Xn.1 hj').1
        have:=hm.2 j' d _ hj' (Xk hl);simpa[XC,Xk hl]using this
     ·cases hv
    ·cases hv
   ·cases hv
  |clo g caps=>
   simp only[bx,XJ]at hv;obtain⟨ds,dP,rfl⟩:=hv;cases hr with
   |clo _ _ vs hl bC=>
    have hm:=many _ ds _ dP (fun k' hk'=>ht k' hk') ⟨hl,bC⟩;exact .clo g ds vs hm.1 hm.2
  |agg cells=>
   simp only[bx,XJ]at hv;obtain⟨ds,dP,rfl⟩:=hv;cases hr with
   |agg _ vs hl h1 bC=>
    have hm:=many _ ds _ dP (fun k' hk'=>ht k' hk') ⟨hl,bC⟩;refine .agg ds vs hm.1 (fun d hd=>?_) hm.2;obtain⟨j,hj,e⟩:=Ya hd;obtain⟨p,hp,AB⟩:=(fG dP).2 j d (by rw[<-e];exact Xk hj);exact nU AB (h1 p (Xl hp))
  |tup cells=>
   simp only[bx,XJ]at hv;obtain⟨ds,dP,rfl⟩:=hv;cases hr with
   |tup _ vs hl bC=>
    have hm:=many _ ds _ dP (fun k' hk'=>ht k' hk') ⟨hl,bC⟩;exact .tup ds vs hm.1 hm.2
  |any=>cases hv
  |osl k g sz a m=>
   simp only[bx]at hv;split at hv
   ·rename_i E sz' g' rows hk;split at hv
    ·rename_i e;obtain⟨rfl,rfl,N9⟩:=e;simp only[XJ]at hv;obtain⟨drows,dP,rfl⟩:=hv;obtain⟨q1,q2⟩:=yq dP;have bp:=hc.chunk k;rw[hk]at bp;have hkT:k∈T:=ht k (by simp[cY]);have Az:∀r∈rows,∀p∈r,∀k'∈cY s.heap n p,k'∈T:=fun r hr p hp k' hk'=>ht k' (by
      simp only[cY,hk,X2];exact .inr (pZ hr hp k' hk'))
     cases hr with
     |osl _ _ _ _ _ b o N cap ep hn VU R5=>
      obtain⟨cur,xs,z1,z2,z3,z4,z5,z6,z7,z8,z9,z10,z11⟩:=eH bp ep (fun e=>by rw[e]at N9;simp at N9);have bB:((rows.drop a).take m).length=m:=by rw[Xp,XS];omega
      rw[bB]at q1;rcases ZG m with hm0|hm0
      ·subst hm0;have:drows=[]:=X4 aa;subst this;exact .nil sz _ _ (by simp[maxLen]at z9;omega)
      ·have ho:o=a*sz:=R5 aa;subst ho;have bV:∀(j:Nat) (p:List PV),((rows.drop a).take m)[j]? =some p->rows[a+j]? =some p/\j < m:=by
        intro j p hp;have hj:j < m:=by have:=(Xn.1 hp).1;rw[bB]at this;exact this
        rw[XP hj,Yl]at hp;exact⟨hp,hj⟩
       have mK:∀i j,a*sz+i*sz+j=(a+i)*sz+j:=fun i j=>by rw[ZC]
       have xz:∀i j,i < m->j < sz->(a+i)*sz+j < rows.length*sz:=by
        intro i j hi hj;have:(a+i+1)*sz<=rows.length*sz:=Yt sz aa;rw[YP]at this;omega
       have hD:RepD (m5 c s.heap T) w (.sl sz drows) (.slice (some ⟨b,a*sz,none⟩) drows.length (cap - a)):=by
        refine .sl sz drows b (a*sz) (cap - a) (fun i j=>xs.getD ((a+i)*sz+j) undef) (fun hm'=>hm'.2 k hkT (by rw[hk];simp[Cx.block,ep,cR (show 0 < cap by omega)])) (nV z1) aa (by simp[maxLen]at z9;omega) (fun r hr=>?_) (fun r hr d hd=>?_) (fun i j hi hj=>?_) (fun i j row d hi hj=>?_)
        ·obtain⟨j,hj,e⟩:=Ya hr;obtain⟨p,hp,AB⟩:=q2 j r (by rw[<-e];exact Xk hj);rw[<-(fG AB).1];exact z5 p (Xl (bV j p hp).1)
        ·obtain⟨j,hj,e⟩:=Ya hr;obtain⟨p,hp,AB⟩:=q2 j r (by rw[<-e];exact Xk hj);obtain⟨j2,Oz,e2⟩:=Ya hd;obtain⟨p2,Lv,JT⟩:=(fG AB).2 j2 d (by rw[<-e2];exact Xk Oz);exact nU JT (z6 p (Xl (bV j p hp).1) p2 (Xl Lv))
        ·have hb:=xz i j aa hj;rw[mK];simp only[YU,z1,z4 _ hb];simp[XC,Xk (show (a+i)*sz+j < xs.length by omega)]
        ·obtain⟨p,hp,AB⟩:=q2 i row hi;obtain⟨p2,Lv,JT⟩:=(fG AB).2 j d hj;obtain⟨hp',hi'⟩:=bV i p hp;have hj':j < sz:=by rw[<-z5 p (Xl hp')];exact(Xn.1 Lv).1
         have hb:=xz i j hi' hj';have hx:xs[(a+i)*sz+j]? =some xs[(a+i)*sz+j]:=Xk aa;have:=z2.2 ((a+i)*sz+j) p2 _ (by rw[cD z5 (a+i) j hj',hp'];exact Lv) hx;have:=mb n JT (Az p (Xl hp') p2 (Xl Lv)) this;simpa[XC,hx]using this
       rw[<-q1]at hD;exact hD
    ·cases hv
   ·cases hv
  |mref=>cases hv
end
def vw (h:Nat->Chunk)(p:PV):Option D:=bx h 6 p
def tc (h:Nat->Chunk)(p:PV):List Nat:=cY h 6 p
theorem Tk {h h':Nat->Chunk}{p:PV}(e:∀k∈tc h p,h' k=h k):vw h' p=vw h p:=(fX 6 p e).1
theorem Tl {h h':Nat->Chunk}{p:PV}(e:∀k∈tc h p,h' k=h k):tc h' p=tc h p:=(fX 6 p e).2
section
variable {X:Cfg}{ops:Array Oper}{s:FS}{o:Oper}(hd:∀d,o.dst=some d->d < X.n)
include hd
theorem Tm {fo:Operand}{args:Array Operand}{tys:Array Nat}{g:Nat}{caps:List PV}{ds:List D}{r:D}(ho:o.op= .call {callee:= .value fo,args:=args,argTypes:=tys})
 (hf:ev s fo= .clo g caps\/∃cd:List D,ev s fo= .d (.clo g cd)/\caps=cd.map .d)
 (hv:cI (vw s.heap) (args.toList.map (ev s)++caps)=some ds) (hp:ai X.P g ds r) (gX:j3 (tc s.heap) (args.toList.map (ev s)++caps)=[]\/r.flat=true):
 bO X ops s o {pv:= .d r,touch:=j3 (tc s.heap) (args.toList.map (ev s)++caps)}:=by
 refine⟨hd,fun kc h=>by simp at h,fun s' he jf a w hr K Q hK=>?_⟩;obtain⟨c,hc⟩:=hr;have vY:∀x,(x=fo\/x∈args)->ev s' x=ev s x:=fun x hx=>Do he x (by
  rw[ho];simp only[Op.operands,Call.operands];rcases hx with rfl|hx
  ·simp
  ·simp[hx])
 have C6:args.toList.map (ev s')=args.toList.map (ev s):=Y4 fun x hx=>vY x (.inr (by simpa using hx));have a0n:cI (vw s'.heap) (args.toList.map (ev s)++caps)=some ds:=by
  rw[<-hv];exact hU fun p hp=>Tk fun k hk=>jf k (gp hp k hk)
 have a2A:∀p∈args.toList.map (ev s)++caps,∀k∈tc s'.heap p,k∈j3 (tc s.heap) (args.toList.map (ev s)++caps):=by
  intro p hp k hk;refine gp hp k ?_;have key:tc s'.heap p=tc s.heap p:=Tl fun k hk=>jf k (gp hp k hk);rw[<-key];exact hk
 obtain⟨q1,q2⟩:=fG a0n;obtain⟨fvs,Vd,xA,sU⟩:∃fvs:List Value,a.eval fo= .func (.func g) #[] fvs.toArray/\caps.length=fvs.length/\∀(j:Nat) (p:PV) (x:Value),caps[j]? =some p->fvs[j]? =some x->RepP c w p x:=a3G
 have bC:eE (m5 c s'.heap (j3 (tc s.heap) (args.toList.map (ev s)++caps))) w ds (args.toList.map a.eval++fvs):=by
  refine⟨by rw[<-q1];simp[xA],fun j d x hj hx=>?_⟩;obtain⟨p,hp,AB⟩:=q2 j d hj;refine mb hc 6 AB (a2A p (Xl hp)) ?_;by_cases hlt:j < args.toList.length
  ·exact a4d
  ·exact a5w
 have jW:=hp.2 _ w (args.toList.map a.eval++fvs) (fun b hb=>hc.lt hb.1) (hc.ginv.keep ⟨Xz _,fun _ _ _=>rfl,fun b _ hb=>hb.1⟩) bC;have cr:(execOp a.eval o).run X.P w= .ok (.enter g (args.toList.map a.eval++fvs).toArray) w:=by
  have e:(args.toList.map a.eval++fvs).toArray=args.map a.eval++fvs.toArray:=by
   apply D';simp
  rw[e];simp[execOp,ho,resolve,Vd,Deferred.ofValue,invoke];exact hp.1 _ _
 unfold Oper.wp;rw[cr,Oper.upon_enter];refine jW.mono ?_;rintro e w' ⟨v,rfl,hv',hx⟩;have fE:=hc.grow hx;refine hK v w' ⟨c,fE.put (.d _ _ ?_) hd⟩;rcases gX with h0|hflat
 ·refine hv'.keep ⟨Xz _,fun _ _ _=>rfl,fun b _ hb=>⟨hb,fun k hk=>?_⟩⟩;rw[h0]at hk;simp at hk
 ·exact O7 hv' hflat
end
theorem a4c {p:Prop}(h:p:=by
 have:=uS (size:=sz) (fun i=>some (i*sz,sz)) (fun _=>rfl) vs 0 [] ((_v (n*sz)).map (ze.cells[· % ze.cells.size]!)).toList Oa ah (by simp[VR]);rw[JU];rw[Yb,Yb,Array.toArray_toList]at this;exact this):p:=h
theorem a4n {p:Prop}(h:p:=by
 apply Yj;intro j;simp only[U',Xy,List.getElem?_zipIdx,vX,X6];cases hj:parts[j]? with
 |none=>rfl
 |some ix=>
  obtain⟨i,x⟩:=ix;obtain⟨rfl,-⟩:=hp j i x hj;simp):p:=h
theorem a4q {p:Prop}(h:p:=by
 intro v hv;obtain⟨j,hj,e⟩:=Ya hv;have hjr:j < rows.length:=aa;have:=(bV j rows[j] v (Xk hjr) (by rw[<-e];exact Xk hj));have h2:=this.1.1;simp at h2;omega):p:=h
theorem a6d {p:Prop}(h:p:=by
 intro r hr;obtain⟨v,hv,rfl⟩:=XN.1 hr;simpa using Oa v hv):p:=h
theorem uS {size:Nat}(place:Nat->Option (Nat × Nat))(jC:∀i,place i=some (i*size,size)):∀(vs:List Value) (i:Nat) (done rest:List Value),(∀v∈vs,v.cells.size=size)->done.length=i*size->rest.length=vs.length*size->
 Instr.fill place (done++rest).toArray ((vs.zipIdx i).map fun(v,j)=>(j,v))=some (done++(vs.map fun v=>v.cells.toList).flatten).toArray
 |[],i,done,rest,_,_,hr=>by
  have:rest=[]:=X4 (by simpa using hr);subst this;simp[Instr.fill]
 |v::vs,i,done,rest,hv,hdn,hr=>by
  have h0:=hv v ah;rw[Xx,YP]at hr;simp only[List.zipIdx_cons,Xm];rw[BL place _ i (i*size) size v _ (jC i) h0 aK];have e:aB (done++rest) (i*size) v.cells.toList=(done++v.cells.toList)++rest.drop size:=by
   unfold aB;have hl:v.cells.toList.length=size:=by simpa using h0
   rw[<-hdn,List.take_left,hl,List.drop_append,List.drop_of_length_le aa,Yb];congr 1;congr 1;omega
  simp only[Y6];rw[e,uS place jC vs (i+1) (done++v.cells.toList) (rest.drop size) (fun x hx=>hv x (by simp[hx])) (by rw[Xv,hdn,YP];simp;omega) (by rw[XS];omega)];simp
section
variable {X:Cfg}{ops:Array Oper}{s:FS}{o:Oper}(hd:∀d,o.dst=some d->d < X.n)
include hd
theorem A0 {t e n sz:Nat}{parts:Array (Nat × Operand)}{ti te:TI}{rows:List (List D)}(ho:o.op= .buildSlice t n parts)(ht:aW X.P t=some ti)(he':ti.elem=some e)(iH:aW X.P e=some te)
 (cL:te.size=sz) (AA:0 < sz) (pJ:0 < n) (a0o:n*sz<=16777216) (EM:rows.length=n) (mL:parts.size=n) (hp:∀(j:Nat) (i:Nat) (x:Operand),parts[j]? =some (i,x)->i=j/\∃ds,rows[j]? =some ds/\yj (cX (ev s x))=some ds/\BM (ev s x)=true/\ds.length=sz):
 bO X ops s o {pv:= .d (.sl sz rows)}:=
 en hd (fun kc h=>by simp at h) fun s' he _ a w c hc=>by
  obtain⟨i,d,z,tk⟩:=jg ht;obtain⟨ie,de,ze,tke⟩:=jg iH;have ly:d= .slice e:=a3C
  subst ly;obtain⟨vs,vX⟩:∃vs:List Value,vs=parts.toList.map fun p=>a.eval p.2:=⟨_,rfl⟩;have VR:vs.length=n:=by rw[vX];simpa using mL
  have bV:∀(j:Nat) (ds:List D) (v:Value),rows[j]? =some ds->vs[j]? =some v->eE c.M w ds v.cells.toList/\(∀e∈ds,e.one=true)/\ds.length=sz:=by
   intro j ds v hj hv;rw[vX]at hv;simp only[Xy,X6,XJ]at hv;obtain⟨⟨i,y⟩,hy,rfl⟩:=hv;obtain⟨-,ds',g1,g2,g3,g4⟩:=hp j i y hy;rw[hj]at g1;cases g1;have gz:y∈o.op.operands:=a4g
   have bC:=bR hc y;rw[he y gz]at bC;obtain⟨r1,r2⟩:=lT bC g3;have gU:=tt g2;refine⟨⟨?_,fun k e v hk hv=>?_⟩,fun e he'=>?_,g4⟩
   ·have:=r1.1;rw[gU,XB]at this;exact this
   ·exact cn (r1.2 k (.d e) v (by rw[gU,Xy,hk];rfl) hv)
   ·have:=r2 (.d e) (by rw[gU];exact Zd he');exact this
  have Oa:∀v∈vs,v.cells.size=sz:=a4q
  have JU:(parts.map fun(i,x)=>(i,a.eval x)).toList=((vs.zipIdx 0).map fun(v,j)=>(j,v)):=a4n
  have VW:ze.cells.size=sz:=by rw[<-cL,<-tke.zsize,<-tke.zcells];simp
  have R6:Instr.fill (fun i=>some (i*sz,sz)) ((_v (n*sz)).map (ze.cells[· % ze.cells.size]!)) (parts.map fun(i,x)=>(i,a.eval x)).toList=some ((vs.map fun v=>v.cells.toList).flatten).toArray:=a4c
  have gX:∀r∈vs.map fun v=>v.cells.toList,r.length=sz:=a6d
  have hx:=kk w (.cells ((vs.map fun v=>v.cells.toList).flatten).toArray e);refine⟨.value (.slice (some ⟨w.heap.size,0,none⟩) n n),_,w.alloc (.cells ((vs.map fun v=>v.cells.toList).flatten).toArray e),?_,.inl rfl,c,hc.grow hx,.d _ _ ?_⟩
  ·have kG:∀o:Obj,({w with heap:=w.heap.push o}:World)=w.alloc o:=fun o=>(_k w o);have cr:(Instr.buildSlice t n (parts.map fun(i,x)=>(i,a.eval x))).run X.P w= .ok (.slice (some ⟨w.heap.size,0,none⟩) n n) (w.alloc (.cells ((vs.map fun v=>v.cells.toList).flatten).toArray e)):=by
    have bH:¬(n*sz=0):=Nat.ne_of_gt (Nat.mul_pos pJ AA);unfold Instr.buildSlice;simp only[Sem.run_bind,run_underlying tk.und,Result.andThen_ok,sizeOf,typeInfo,run_program,tke.info,Sem.run_pure,tke.size,cL];rw[af aa,af bH];simp only[Sem.run_bind,zeroValue,typeInfo,run_program,tke.info,Result.andThen_ok,Sem.run_pure,tke.zero,R6];simp[newRow,newObj,Sem.run,kG]
   simp only[execOp,ho];rw[Sem.run_bind,cr];rfl
  ·have hM:∀b,c.M b->b < w.heap.size:=fun b hb=>hc.lt hb;have hk:Keep c.M w c.M (w.alloc (.cells ((vs.map fun v=>v.cells.toList).flatten).toArray e)):=Keep.ext hx hM;subst EM;refine .sl sz rows w.heap.size 0 rows.length (fun i j=>((vs[i]?.map fun v=>v.cells.toList).getD []).getD j undef) (fun h=>by have:=hM _ h;omega) (by rw[size_alloc];omega) (Xz _)
    (by have:rows.length<=rows.length*sz:=_j _ AA;omega) (fun r hr=>?_) (fun r hr=>?_) (fun i j hi hj=>?_) (fun i j row d hi hj=>?_)
   ·obtain⟨j,hj,e⟩:=Ya hr;exact(bV j r vs[j] (by rw[<-e];exact Xk hj) (Xk aa)).2.2
   ·obtain⟨j,hj,e⟩:=Ya hr;exact(bV j r vs[j] (by rw[<-e];exact Xk hj) (Xk aa)).2.1
   ·have hv:vs[i]? =some vs[i]:=Xk aa;have hf:=cD (rows:=vs.map fun v=>v.cells.toList) gX i j hj;rw[Xy,hv]at hf;simp only[YU,kN,XE,_r,hf,hv,Yg,Yp,Y0];have hl:j < vs[i].cells.toList.length:=by
     have:=Oa vs[i] (Ye aa);simpa[this]using hj
    simp[XC,Xk hl]
   ·have hi':i < rows.length:=(Xn.1 hi).1;have hv:vs[i]? =some vs[i]:=Xk aa;obtain⟨g1,g2,g3⟩:=bV i row vs[i] hi hv;have hl:j < vs[i].cells.toList.length:=by rw[<-g1.1];exact(Xn.1 hj).1
    have:=(g1.2 j d _ hj (Xk hl)).keep hk;simpa[hv,XC,Xk hl]using this
theorem yr {t e n sz nk:Nat}{parts:Array (Nat × Operand)}{ti te:TI}{rows:List (List PV)}(ho:o.op= .buildSlice t n parts)(ht:aW X.P t=some ti)(he':ti.elem=some e)(iH:aW X.P e=some te)
 (cL:te.size=sz) (AA:0 < sz) (pJ:0 < n) (a0o:n*sz<=16777216) (EM:rows.length=n) (mL:parts.size=n) (hk:s.heap nk= .none) (wY:¬nk < X.m) (hp:∀(j:Nat) (i:Nat) (x:Operand),parts[j]? =some (i,x)->i=j/\rows[j]? =some (cX (ev s x))/\BM (ev s x)=true/\(cX (ev s x)).length=sz):
 bO X ops s o {pv:= .own nk 0,eff:=[(nk,.row e sz 0 rows)],touch:=[nk]}:=
 en hd (fun kc h=>by simp at h;subst h;simp) fun s' he jf a w c hc=>by
  obtain⟨i,d,z,tk⟩:=jg ht;obtain⟨ie,de,ze,tke⟩:=jg iH;have ly:d= .slice e:=a3C
  subst ly;obtain⟨vs,vX⟩:∃vs:List Value,vs=parts.toList.map fun p=>a.eval p.2:=⟨_,rfl⟩;have VR:vs.length=n:=by rw[vX];simpa using mL
  have bV:∀(j:Nat) (ds:List PV) (v:Value),rows[j]? =some ds->vs[j]? =some v->bI c w ds v.cells.toList/\(∀e∈ds,e.one=true)/\ds.length=sz:=by
   intro j ds v hj hv;rw[vX]at hv;simp only[Xy,X6,XJ]at hv;obtain⟨⟨i,y⟩,hy,rfl⟩:=hv;obtain⟨-,g1,g3,g4⟩:=hp j i y hy;rw[hj]at g1;cases g1;have gz:y∈o.op.operands:=a4g
   have bC:=bR hc y;rw[he y gz]at bC;obtain⟨r1,r2⟩:=lT bC g3;exact⟨r1,r2,g4⟩
  have Oa:∀v∈vs,v.cells.size=sz:=a4q
  have JU:(parts.map fun(i,x)=>(i,a.eval x)).toList=((vs.zipIdx 0).map fun(v,j)=>(j,v)):=a4n
  have VW:ze.cells.size=sz:=by rw[<-cL,<-tke.zsize,<-tke.zcells];simp
  have R6:Instr.fill (fun i=>some (i*sz,sz)) ((_v (n*sz)).map (ze.cells[· % ze.cells.size]!)) (parts.map fun(i,x)=>(i,a.eval x)).toList=some ((vs.map fun v=>v.cells.toList).flatten).toArray:=a4c
  have gX:∀r∈vs.map fun v=>v.cells.toList,r.length=sz:=a6d
  have hx:=kk w (.cells ((vs.map fun v=>v.cells.toList).flatten).toArray e);have hk':s'.heap nk= .none:=by rw[jf nk ah];exact hk
  have Lw:(vs.map fun v=>v.cells.toList).flatten.length=n*sz:=by rw[cO gX];simp[VR]
  have bC:bI c w rows.flatten (vs.map fun v=>v.cells.toList).flatten:=by
   refine⟨?_,fun j d x hj hx=>?_⟩
   ·rw[cO (fun r hr=>?_),Lw,EM];obtain⟨j,hj,e⟩:=Ya hr;exact(bV j r vs[j] (by rw[<-e];exact Xk hj) (Xk aa)).2.2
   ·have C5:∀r∈rows,r.length=sz:=fun r hr=>by
     obtain⟨j,hj,e⟩:=Ya hr;exact(bV j r vs[j] (by rw[<-e];exact Xk hj) (Xk aa)).2.2
    have a2B:j < n*sz:=by rw[<-Lw];exact(Xn.1 hx).1
    have q1:j / sz < n:=ZK (by rw[ZA];exact a2B);have q2:j % sz < sz:=Nat.mod_lt _ AA;have q3:j / sz*sz+j % sz=j:=by rw[ZA];exact Nat.div_add_mod j sz
    rw[<-q3,cD C5 _ _ q2]at hj;rw[<-q3,cD gX _ _ q2,Xy]at hx;have h1:rows[j / sz]? =some rows[j / sz]:=Xk aa;have h2:vs[j / sz]? =some vs[j / sz]:=Xk aa;rw[h1]at hj;rw[h2]at hx;exact(bV _ _ _ h1 h2).1.2 _ d x hj hx
  have bj:OwnV (w.alloc (.cells ((vs.map fun v=>v.cells.toList).flatten).toArray e)) e sz (.slice (some ⟨w.heap.size,0,none⟩) n n) rows.length ((vs.map fun v=>v.cells.toList).flatten):=by
   rw[EM];refine .row _ n n _ _ pJ (kN w _) (Xz _) (by have:n<=n*sz:=_j _ AA;unfold maxLen;omega) (by simp only[YG];exact Lw) Lw ?_;rw[Y6,XG aa]
  obtain⟨c',q1,q2⟩:=hc.new_row (w':=w.alloc (.cells ((vs.map fun v=>v.cells.toList).flatten).toArray e)) hk' wY e sz rows _ _ hx bj (fun b hb=>by rw[cR pJ]at hb;cases hb;exact Xz _) bC (fun r hr=>by
   obtain⟨j,hj,e⟩:=Ya hr;exact(bV j r vs[j] (by rw[<-e];exact Xk hj) (Xk aa)).2.2) (fun r hr=>by
   obtain⟨j,hj,e⟩:=Ya hr;exact(bV j r vs[j] (by rw[<-e];exact Xk hj) (Xk aa)).2.1)
  refine⟨.value (.slice (some ⟨w.heap.size,0,none⟩) n n),_,w.alloc (.cells ((vs.map fun v=>v.cells.toList).flatten).toArray e),?_,.inl rfl,c',q1,q2⟩;have kG:∀o:Obj,({w with heap:=w.heap.push o}:World)=w.alloc o:=fun o=>(_k w o);have cr:(Instr.buildSlice t n (parts.map fun(i,x)=>(i,a.eval x))).run X.P w= .ok (.slice (some ⟨w.heap.size,0,none⟩) n n) (w.alloc (.cells ((vs.map fun v=>v.cells.toList).flatten).toArray e)):=by
   have bH:¬(n*sz=0):=Nat.ne_of_gt (Nat.mul_pos pJ AA);unfold Instr.buildSlice;simp only[Sem.run_bind,run_underlying tk.und,Result.andThen_ok,sizeOf,typeInfo,run_program,tke.info,Sem.run_pure,tke.size,cL];rw[af aa,af bH];simp only[Sem.run_bind,zeroValue,typeInfo,run_program,tke.info,Result.andThen_ok,Sem.run_pure,tke.zero,R6];simp[newRow,newObj,Sem.run,kG]
  simp only[execOp,ho];rw[Sem.run_bind,cr];rfl
theorem yt {t e nk:Nat}{ti te:TI}(ho:o.op= .buildSlice t 0 #[])(ht:aW X.P t=some ti)(he':ti.elem=some e)(iH:aW X.P e=some te)(hk:s.heap nk= .none)(wY:¬nk < X.m):
 bO X ops s o {pv:= .own nk 0,eff:=[(nk,.row e te.size 0 [])],touch:=[nk]}:=
 en hd (fun kc h=>by simp at h;subst h;simp) fun s' he jf a w c hc=>by
  obtain⟨i,d,z,tk⟩:=jg ht;obtain⟨ie,de,ze,tke⟩:=jg iH;have ly:d= .slice e:=a3C
  subst ly;have hk':s'.heap nk= .none:=by rw[jf nk ah];exact hk
  obtain⟨c',q1,q2⟩:=hc.new_row (w':=w.alloc (.cells #[] e)) hk' wY e te.size [] _ [] (kk w _) (.zero ⟨w.heap.size,0,none⟩) (fun b hb=>by cases hb) ⟨rfl,fun j d x h=>by simp at h⟩ ah ah;refine⟨_,_,_,?_,.inl rfl,c',q1,q2⟩;have kG:∀o:Obj,({w with heap:=w.heap.push o}:World)=w.alloc o:=fun o=>(_k w o);have cr:(Instr.buildSlice t 0 #[]).run X.P w= .ok (.slice (some ⟨w.heap.size,0,none⟩) 0 0) (w.alloc (.cells #[] e)):=by
   simp[Instr.buildSlice,run_underlying tk.und,sizeOf,typeInfo,tke.info,Instr.fill,newRow,newObj,Sem.run,kG];rw[show Array.map (fun _=>(default:Value)) (_v 0)=#[] from _s ah]
  simp only[execOp,ho];rw[Sem.run_bind];simp only[Array.map_empty,cr];rfl
theorem Dy {t e nk:Nat}{l x:Operand}{ti te:TI}{zv:Value}{k k':IntKind}{n:Int}(ho:o.op= .makeSlice t l x)(ht:aW X.P t=some ti)(he':ti.elem=some e)(iH:aW X.P e=some te)
 (mW:te.zero=[zv]) (pJ:0 < n) (hb:(te.bytes:Int)*n<=281474976710656) (hm:n<=9223372036854775807) (hl:ev s l= .d (.v (.int k n))) (hx:ev s x= .d (.v (.int k' n))) (hk:s.heap nk= .none) (wY:¬nk < X.m):
 bO X ops s o {pv:= .own nk 0,eff:=[(nk,.row e 1 0 (XY n.toNat [.d (.v zv)]))],touch:=[nk]}:=
 en hd (fun kc h=>by simp at h;subst h;simp) fun s' he jf a w c hc=>by
  obtain⟨i,d,z,tk⟩:=jg ht;obtain⟨ie,de,ze,tke⟩:=jg iH;have ly:d= .slice e:=a3C
  subst ly;have e1:=bR hc l;rw[he l (by simp[ho,Op.operands]),hl]at e1;have e2:=bR hc x;rw[he x (by simp[ho,Op.operands]),hx]at e2;have e3:a.eval l= .int k n:=by generalize a.eval l=u at e1;cases cn e1;rfl
  have e4:a.eval x= .int k' n:=by generalize a.eval x=u at e2;cases cn e2;rfl
  have VW:ze.cells=#[zv]:=by apply D';rw[tke.zcells,mW]
  have cL:ie.size=1:=by have:=tke.zsize;rw[mW]at this;rw[tke.size];simpa using this.symm
  have a1y:Go.madeCells ze.cells (n.toNat*ie.size)=(XY n.toNat zv).toArray:=by
   rw[VW,cL,Nat.mul_one];apply D';simp only[Go.madeCells,U',Array.toList_range];apply List.ext_getElem
   ·simp
   ·intro j h1 h2;simp[Nat.mod_one]
  have hk':s'.heap nk= .none:=by rw[jf nk ah];exact hk
  have C5:∀r∈XY n.toNat [PV.d (.v zv)],r=[PV.d (.v zv)]:=fun r hr=>ZH hr;have hflat:(XY n.toNat [PV.d (.v zv)]).flatten=XY n.toNat (PV.d (.v zv)):=by
   induction n.toNat with
   |zero=>rfl
   |succ m ih=>rw[List.replicate_succ,YL,ih];rfl
  have a2C:zv.oneCell'=true:=tke.one zv (by rw[mW];simp);obtain⟨c',q1,q2⟩:=hc.new_row (w':=w.alloc (.cells (XY n.toNat zv).toArray e)) hk' wY e 1 (XY n.toNat [PV.d (.v zv)]) (.slice (some ⟨w.heap.size,0,none⟩) n.toNat n.toNat) (XY n.toNat zv) (kk w _) (by
   rw[List.length_replicate];refine .row _ n.toNat n.toNat _ _ aa (kN w _) (Xz _) uG ah ah ?_;rw[Y6,XG ah]) (fun b hb=>by rw[cR aa]at hb;cases hb;exact Xz _) (by
   rw[hflat];refine⟨by simp,fun j d u hj hu=>?_⟩;rw[List.getElem?_replicate]at hj hu;split at hj
   ·cases hj;rename_i hlt;rw[aj hlt]at hu;cases hu;exact .d _ _ (.v _)
   ·cases hj) (fun r hr=>by rw[C5 r hr];rfl) (fun r hr d hd=>by rw[C5 r hr]at hd;rw[X7.1 hd];exact a2C)
  refine⟨_,_,_,?_,.inl rfl,c',q1,q2⟩;have cr:=run_make (P:=X.P) w t e ie ze tk.und tke.info tke.zero k k' n n aa (ZW _) (by rw[tke.bytes];exact hb) hm;rw[a1y]at cr;simp only[execOp,ho,e3,e4];rw[Sem.run_bind,cr];rfl
theorem Iz {src dst:Nat}{x:Operand}{k k':IntKind}{n:Int}{ts td:TI}(ho:o.op= .convert src dst x)(hs:aW X.P src=some ts)(ht:aW X.P dst=some td)(hi:td.int=some k)(hx:ev s x= .d (.v (.int k' n))):
 bO X ops s o {pv:= .d (.v (.int k (k.wrap n)))}:=
 aN hd fun s' he _ a w c hc=>by
  have h1:=dt hc ((he x (by simp[ho,Op.operands])).trans hx);obtain⟨i,d,z,tk⟩:=jg hs;obtain⟨i2,d2,z2,tk2⟩:=jg ht;have C7:d2= .int k:=by
   have:=tk2.int;rw[hi]at this;cases d2<;>simp[Th]at this;rw[this]
  subst C7;refine⟨.int k (k.wrap n),?_,.d _ _ (.v _)⟩;have cr:(convert src dst (.int k' n)).run X.P w= .ok (.int k (k.wrap n)) w:=by
   simp[convert,run_underlying tk.und,run_underlying tk2.und,Conv.intToInt]
  simp only[execOp,ho,h1];rw[Sem.run_bind,cr];rfl
theorem Wg {x y:Operand}{tys:Array Nat}{k:IntKind}{m n:Int}(ho:o.op= .call {callee:= .builtin .min,args:=#[x,y],argTypes:=tys})(hx:ev s x= .d (.v (.int k m)))(hy:ev s y= .d (.v (.int k n))):
 bO X ops s o {pv:= .d (.v (.int k (if n < m then n else m)))}:=
 aN hd fun s' he _ a w c hc=>by
  have h1:=dt hc ((he x (by simp[ho,Op.operands,Call.operands])).trans hx);have h2:=dt hc ((he y (by simp[ho,Op.operands,Call.operands])).trans hy);exact⟨.int k (if n < m then n else m),by simp[execOp,ho,resolve,h1,h2,invoke,builtin,Builtin.min_,Builtin.min2],.d _ _ (.v _)⟩
theorem Wh {x y:Operand}{tys:Array Nat}{k:IntKind}{m n:Int}(ho:o.op= .call {callee:= .builtin .max,args:=#[x,y],argTypes:=tys})(hx:ev s x= .d (.v (.int k m)))(hy:ev s y= .d (.v (.int k n))):
 bO X ops s o {pv:= .d (.v (.int k (if m < n then n else m)))}:=
 aN hd fun s' he _ a w c hc=>by
  have h1:=dt hc ((he x (by simp[ho,Op.operands,Call.operands])).trans hx);have h2:=dt hc ((he y (by simp[ho,Op.operands,Call.operands])).trans hy);exact⟨.int k (if m < n then n else m),by simp[execOp,ho,resolve,h1,h2,invoke,builtin,Builtin.max_,Builtin.max2],.d _ _ (.v _)⟩
end
theorem nW (T:List Nat)(h:Nat->Chunk)(k:Nat):cH (T.map fun k=>(k,.gone)) h k=if k∈T then .gone else h k:=by
 induction T with
 |nil=>simp[cH]
 |cons a T ih=>
  simp only[Xm,cH];by_cases e:k=a
  ·simp[e]
  ·rw[af e,ih];simp[e]
theorem RealC.freeze {X:Cfg}{s:FS}{a:Act}{w:World}{c:Cx}(h:RealC X s a w c)(T:List Nat):
 RealC X {s with heap:=cH (T.map fun k=>(k,.gone)) s.heap} a w {c with M:=m5 c s.heap T}:=by
 have dK:=nW T s.heap;have hk:=uR c s.heap T w;have cz:∀k ch,Cx.block {c with M:=m5 c s.heap T} k ch=c.block k ch:=fun k ch=>by cases ch<;>rfl
 have hle:c.le {c with M:=m5 c s.heap T}:=⟨fun _ _ h=>h,fun _ _ _ h=>h⟩;refine⟨h.size,h.defers,h.ext,h.inv,h.fresh,fun b=>?_,fun k b hb=>?_,fun k k' b hb hb'=>?_,fun t=>(h.env t).keep hle hk,fun k=>?_,h.lent⟩
 ·constructor
  ·rintro⟨hm,hT⟩;rcases(h.mu b).1 hm with h0|⟨k,Lx⟩
   ·exact .inl h0
   ·refine .inr ⟨k,?_⟩;have hnT:k∉T:=fun d9=>hT k d9 Lx;simp only[dK,af hnT,cz];exact Lx
  ·rintro (h0|⟨k,Lx⟩)
   ·refine⟨(h.mu b).2 (.inl h0),fun k _ e=>?_⟩;rcases(h.new k b e).1 with h1|h1
    ·exact(h.fresh b h0).2 h1
    ·have:=(h.fresh b h0).1;omega
   ·simp only[dK,cz]at Lx;split at Lx
    ·simp[Cx.block]at Lx
    ·rename_i hnT;refine⟨(h.mu b).2 (.inr ⟨k,Lx⟩),fun k' hk' e=>?_⟩;have:=h.apart k k' b Lx e;subst this;exact hnT hk'
 ·simp only[dK,cz]at hb;split at hb
  ·simp[Cx.block]at hb
  ·exact h.new k b hb
 ·simp only[dK,cz]at hb hb';split at hb
  ·simp[Cx.block]at hb
  ·split at hb'
   ·simp[Cx.block]at hb'
   ·exact h.apart k k' b hb hb'
 ·simp only[dK];split
  ·exact .gone
  ·exact(h.chunk k).keep hle hk (fun _ _=>rfl) rfl rfl
abbrev cu:=List (Nat × PV)
def fF:cu->Nat->PV
 |[],_=> .any
 |(a,p)::l,t=>if t=a then p else fF l t
def aD:List Chunk->Nat->Chunk
 |[],_=> .none
 |c::_,0=>c
 |_::l,k+1=>aD l k
def bS (e:cu)(h:List Chunk):FS:=⟨fF e,aD h⟩
def dX (e:cu):Operand->PV
 | .tmp t=>fF e t
 | .const v=> .d (.v v)
 | .func f=> .d (.clo f [])
 | .global _=> .any
theorem aF (e:cu)(h:List Chunk)(x:Operand):ev (bS e h) x=dX e x:=by cases x<;>rfl
mutual
def au (n:Nat):PV->Bool
 | .ptr k _=>decide (k < n)
 | .own k _=>decide (k < n)
 | .rp k _ _ _ _=>decide (k < n)
 | .osl k _ _ _ _=>decide (k < n)
 | .mref k=>decide (k < n)
 | .agg l=>aq n l
 | .tup l=>aq n l
 | .clo _ caps=>aq n caps
 | .d _=>true
 | .any=>true
def aq (n:Nat):List PV->Bool
 |[]=>true
 |p::l=>au n p&&aq n l
end
theorem km {n:Nat}:∀{l:List PV},aq n l=true->∀p∈l,au n p=true
 |q::l,h,p,hp=>by
  simp only[aq,Xt]at h;rcases X2.1 hp with rfl|hp
  ·exact h.1
  ·exact km h.2 p hp
def cE (n:Nat):List (List PV)->Bool
 |[]=>true
 |r::l=>aq n r&&cE n l
theorem bu (n:Nat):∀(l:List D),aq n (l.map .d)=true
 |[]=>rfl
 |x::l=>by simp only[Xm,aq,au,bu n l,Yq]
theorem aC (n:Nat):∀(l:List (List D)),cE n (ab l)=true
 |[]=>rfl
 |x::l=>by
  have:=aC n l;simp only[ab]at this;simp only[ab,Xm,cE,bu,this,Yq]
def aR (n:Nat):Chunk->Bool
 | .box _ cells=>aq n cells
 | .row _ _ _ rows=>cE n rows
 |_=>true
def aH (n:Nat):List Chunk->Bool
 |[]=>true
 |c::l=>aR n c&&aH n l
def eJ (n:Nat):cu->Bool
 |[]=>true
 |(_,p)::l=>au n p&&eJ n l
def Mf (e:cu):cu->Prop
 |[]=>True
 |(t,p)::l=>fF e t=p/\Mf e l
theorem yu {n:Nat}:∀{e:cu},eJ n e=true->∀t,au n (fF e t)=true
 |[],_,_=>rfl
 |(t',p)::l,h,t=>by
  simp only[eJ,Xt]at h;simp only[fF];by_cases ht:t=t'
  ·rw[aj ht];exact h.1
  ·rw[af ht];exact yu h.2 t
theorem uT {n:Nat}:∀{h:List Chunk},aH n h=true->∀k,aR n (aD h k)=true
 |[],_,_=>rfl
 |c::l,h,k=>by
  simp only[aH,Xt]at h;cases k with
  |zero=>exact h.1
  |succ k=>exact uT h.2 k
mutual
def ren (ρ:Nat->Nat):PV->PV
 | .d x=> .d x
 | .any=> .any
 | .ptr k o=> .ptr (ρ k) o
 | .own k g=> .own (ρ k) g
 | .rp k g sz i j=> .rp (ρ k) g sz i j
 | .osl k g sz a n=> .osl (ρ k) g sz a n
 | .clo g caps=> .clo g (jH ρ caps)
 | .agg l=> .agg (jH ρ l)
 | .tup l=> .tup (jH ρ l)
 | .mref k=> .mref (ρ k)
def jH (ρ:Nat->Nat):List PV->List PV
 |[]=>[]
 |p::l=>ren ρ p::jH ρ l
end
def kO (ρ:Nat->Nat):List (List PV)->List (List PV)
 |[]=>[]
 |r::l=>jH ρ r::kO ρ l
def mS (ρ:Nat->Nat):Chunk->Chunk
 | .box T cells=> .box T (jH ρ cells)
 | .row E sz g rows=> .row E sz g (kO ρ rows)
 |c=>c
theorem dk (ρ:Nat->Nat):∀(l:List PV),jH ρ l=l.map (ren ρ)
 |[]=>rfl
 |p::l=>by simp only[jH,dk ρ l,Xm]
theorem fd (ρ:Nat->Nat):∀(l:List (List PV)),kO ρ l=l.map (·.map (ren ρ))
 |[]=>rfl
 |p::l=>by simp only[kO,fd ρ l,dk,Xm]
theorem IA (ρ:Nat->Nat):∀(l:List D),jH ρ (l.map .d)=l.map .d
 |[]=>rfl
 |x::l=>by simp only[Xm,jH,ren,IA ρ l]
theorem yv (ρ:Nat->Nat):∀(l:List (List D)),kO ρ (ab l)=ab l
 |[]=>rfl
 |x::l=>by
  have:=yv ρ l;simp only[ab]at this;simp only[ab,Xm,kO,IA,this]
theorem O9 (ρ:Nat->Nat)(l:List (List PV))(i:Nat)(r:List PV):kO ρ (l.set i r)=(kO ρ l).set i (jH ρ r):=by
 simp only[fd,dk,Z7]
theorem Fj (ρ:Nat->Nat)(l:List (List PV)):(kO ρ l).length=l.length:=by rw[fd,XB]
theorem qO (ρ:Nat->Nat)(p:PV):(ren ρ p).one=p.one:=by cases p<;>rfl
theorem tw (ρ:Nat->Nat)(l:List (List PV)):(kO ρ l).flatten=l.flatten.map (ren ρ):=by
 rw[fd,List.map_flatten]
theorem RepP.ren {c c2:Cx}{w:World}{ρ:Nat->Nat}{p:PV}{v:Value}(h:RepP c w p v)(hM:∀d x,RepD c.M w d x->RepD c2.M w d x)(hb:∀k b,c.bl k=some b->c2.bl (ρ k)=some b)(ho:∀k g u,c.ov k g=some u->c2.ov (ρ k) g=some u):RepP c2 w (ren ρ p) v:=by
 induction h with
 |d x v h=>exact .d x v (hM x v h)
 |any v=>exact .any v
 |ptr k off b h=>exact .ptr _ off b (hb _ _ h)
 |own k g v h h1=>exact .own _ g v (ho _ _ _ h) h1
 |rp k g sz i j b n cap h=>exact .rp _ g sz i j b n cap (ho _ _ _ h)
 |osl k g sz a n b o N cap h hn hc h2=>exact .osl _ g sz a n b o N cap (ho _ _ _ h) hn hc h2
 |clo g caps vs hl bC ih=>
  refine .clo g _ vs (by rw[dk,XB];exact hl) fun j d x hj hx=>?_;rw[dk,Xy,XJ]at hj;obtain⟨y,hy,rfl⟩:=hj;exact ih j y x hy hx
 |agg caps vs hl h1 bC ih=>
  refine .agg _ vs (by rw[dk,XB];exact hl) (fun d hd=>?_) fun j d x hj hx=>?_
  ·rw[dk]at hd;obtain⟨y,hy,rfl⟩:=XN.1 hd;rw[qO];exact h1 y hy
  ·rw[dk,Xy,XJ]at hj;obtain⟨y,hy,rfl⟩:=hj;exact ih j y x hy hx
 |tup caps vs hl bC ih=>
  refine .tup _ vs (by rw[dk,XB];exact hl) fun j d x hj hx=>?_;rw[dk,Xy,XJ]at hj;obtain⟨y,hy,rfl⟩:=hj;exact ih j y x hy hx
 |mref k b h=>exact .mref _ b (hb _ _ h)
theorem bI.ren {c c2:Cx}{w:World}{ρ:Nat->Nat}{ps:List PV}{vs:List Value}(h:bI c w ps vs)(hM:∀d x,RepD c.M w d x->RepD c2.M w d x)(hb:∀k b,c.bl k=some b->c2.bl (ρ k)=some b)(ho:∀k g u,c.ov k g=some u->c2.ov (ρ k) g=some u):bI c2 w (ps.map (ren ρ)) vs:=by
 refine⟨by rw[XB];exact h.1,fun j d x hj hx=>?_⟩;rw[Xy,XJ]at hj;obtain⟨y,hy,rfl⟩:=hj;exact(h.2 j y x hy hx).ren hM hb ho
mutual
theorem a0O {c c1:Cx}{w:World}{ρ:Nat->Nat}{m:Nat}(hM:∀d x,RepD c.M w d x->RepD c1.M w d x)(hb:∀j,j < m->∀b,c.bl (ρ j)=some b->c1.bl j=some b)(ho:∀j,j < m->∀g u,c.ov (ρ j) g=some u->c1.ov j g=some u):∀(p:PV) (v:Value),au m p=true->RepP c w (ren ρ p) v->RepP c1 w p v
 | .d x,v,_,h=>by
  simp only[Go.Proofs.YtojojebildofnaaGreatDoor.ren]at h;cases h with|d _ _ h=>exact .d x v (hM x v h)
 | .any,v,_,_=> .any v
 | .ptr k off,v,hk,h=>by
  simp only[Go.Proofs.YtojojebildofnaaGreatDoor.ren]at h;simp only[au,decide_eq_true_eq]at hk;cases h with|ptr _ _ b h=>exact .ptr k off b (hb k hk b h)
 | .own k g,v,hk,h=>by
  simp only[Go.Proofs.YtojojebildofnaaGreatDoor.ren]at h;simp only[au,decide_eq_true_eq]at hk;cases h with|own _ _ _ h h1=>exact .own k g v (ho k hk g v h) h1
 | .rp k g sz i j,v,hk,h=>by
  simp only[Go.Proofs.YtojojebildofnaaGreatDoor.ren]at h;simp only[au,decide_eq_true_eq]at hk;cases h with|rp _ _ _ _ _ b n cap h=>exact .rp k g sz i j b n cap (ho k hk g _ h)
 | .osl k g sz a n,v,hk,h=>by
  simp only[Go.Proofs.YtojojebildofnaaGreatDoor.ren]at h;simp only[au,decide_eq_true_eq]at hk;cases h with|osl _ _ _ _ _ b o N cap h hn hc h2=>exact .osl k g sz a n b o N cap (ho k hk g _ h) hn hc h2
 | .mref k,v,hk,h=>by
  simp only[Go.Proofs.YtojojebildofnaaGreatDoor.ren]at h;simp only[au,decide_eq_true_eq]at hk;cases h with|mref _ b h=>exact .mref k b (hb k hk b h)
 | .clo g caps,v,hk,h=>by
  simp only[Go.Proofs.YtojojebildofnaaGreatDoor.ren]at h;simp only[au]at hk;cases h with
  |clo _ _ vs hl bC=>
   rw[dk,XB]at hl;exact .clo g caps vs hl (sd hM hb ho caps vs hk bC)
 | .agg caps,v,hk,h=>by
  simp only[Go.Proofs.YtojojebildofnaaGreatDoor.ren]at h;simp only[au]at hk;cases h with
  |agg _ vs hl h1 bC=>
   rw[dk,XB]at hl;refine .agg caps vs hl (fun d hd=>?_) (sd hM hb ho caps vs hk bC);rw[<-qO ρ];exact h1 _ (by rw[dk];exact Zd hd)
 | .tup caps,v,hk,h=>by
  simp only[Go.Proofs.YtojojebildofnaaGreatDoor.ren]at h;simp only[au]at hk;cases h with
  |tup _ vs hl bC=>
   rw[dk,XB]at hl;exact .tup caps vs hl (sd hM hb ho caps vs hk bC)
theorem sd {c c1:Cx}{w:World}{ρ:Nat->Nat}{m:Nat}(hM:∀d x,RepD c.M w d x->RepD c1.M w d x)(hb:∀j,j < m->∀b,c.bl (ρ j)=some b->c1.bl j=some b)(ho:∀j,j < m->∀g u,c.ov (ρ j) g=some u->c1.ov j g=some u):∀(l:List PV) (vs:List Value),aq m l=true->(∀(j:Nat) (d:PV) (x:Value),(jH ρ l)[j]? =some d->vs[j]? =some x->RepP c w d x)->∀(j:Nat) (d:PV) (x:Value),l[j]? =some d->vs[j]? =some x->RepP c1 w d x
 |[],_,_,_,j,d,x,hj,_=>by simp at hj
 |p::l,[],_,_,j,d,x,_,hx=>by simp at hx
 |p::l,v::vs,hk,h,j,d,x,hj,hx=>by
  simp only[aq,Xt]at hk;cases j with
  |zero=>
   have e1:p=d:=by simpa using hj
   have e2:v=x:=by simpa using hx
   rw[<-e1,<-e2];exact a0O hM hb ho p v hk.1 (h 0 _ v rfl rfl)
  |succ j=>exact sd hM hb ho l vs hk.2 (fun j d x h1 h2=>h (j+1) d x h1 (by simpa using h2)) j d x (by simpa using hj) (by simpa using hx)
end
theorem wx {m:Nat}{rows:List (List PV)}(h:cE m rows=true):aq m rows.flatten=true:=by
 induction rows with
 |nil=>rfl
 |cons r rows ih=>
  simp only[cE,Xt]at h;have app:∀(a b:List PV),aq m a=true->aq m b=true->aq m (a++b)=true:=by
   intro a b ha hb;induction a with
   |nil=>exact hb
   |cons x a iha=>
    simp only[aq,Xt]at ha;simp only[X9,aq,ha.1,iha ha.2,Yq]
  rw[YL];exact app _ _ h.1 (ih h.2)
def Mg:Act:={tmps:=#[],defers:=[]}
structure MSpec (P:Program)(f:Nat)(args:List PV)(h0:List Chunk)(r:PV)(h1:List Chunk):Prop where
 fn:yp P f
 le:h0.length<=h1.length
 ba:aq h0.length args=true
 bh:aH h0.length h0=true
 run:∀X:Cfg,X.P=P->X.n=0->X.m=h0.length->∀(w:World) (c:Cx) (vs:List Value),RealC X (bS [] h0) Mg w c->bI c w args vs->
  Calls P f vs.toArray w fun e w'=>∃v c',e= .returned v/\RepP c' w' r v/\RealC X (bS [] h1) Mg w' c'
def eW:List Nat->Nat->Nat->Nat
 |[],nk,j=>nk+j
 |k::_,_,0=>k
 |_::l,nk,j+1=>eW l nk j
theorem lI:∀(ls:List Nat) (nk j:Nat),eW ls nk (ls.length+j)=nk+j
 |[],nk,j=>by simp[eW]
 |k::l,nk,j=>by
  rw[Xx,show l.length+1+j=(l.length+j)+1 by omega];exact lI l nk j
theorem oP:∀{ls:List Nat}{nk j:Nat},j < ls.length->ls[j]? =some (eW ls nk j)
 |k::l,nk,0,_=>rfl
 |k::l,nk,j+1,h=>by simpa[eW]using oP (ls:=l) (nk:=nk) (j:=j) (by simpa using h)
theorem Dz {ls:List Nat}{nk:Nat}(hn:ls.Nodup)(hlt:∀k∈ls,k < nk){i j:Nat}(h:eW ls nk i=eW ls nk j):i=j:=by
 have old:∀i,i < ls.length->eW ls nk i < nk:=fun i hi=>hlt _ (Xl (oP hi));rcases XM i ls.length with hi|hi<;>rcases XM j ls.length with hj|hj
 ·have h1:=oP (nk:=nk) hi;have h2:=oP (nk:=nk) hj;rw[h]at h1;rw[Xk hi]at h1;rw[Xk hj]at h2;have h3:ls[i]=ls[j]:=XW.inj (h1.trans h2.symm);exact(List.getElem_inj (h₀:=hi) (h₁:=hj) hn).1 h3
 ·have:=old i hi;have h2:=lI ls nk (j - ls.length);rw[show ls.length+(j - ls.length)=j by omega]at h2;omega
 ·have:=old j hj;have h2:=lI ls nk (i - ls.length);rw[show ls.length+(i - ls.length)=i by omega]at h2;omega
 ·have h1:=lI ls nk (i - ls.length);have h2:=lI ls nk (j - ls.length);rw[show ls.length+(i - ls.length)=i by omega]at h1;rw[show ls.length+(j - ls.length)=j by omega]at h2;omega
def lJ (ρ:Nat->Nat):Nat->List Chunk->List (Nat × Chunk)
 |_,[]=>[]
 |j,c::l=>(ρ j,mS ρ c)::lJ ρ (j+1) l
def bM (h:Nat->Chunk)(ρ:Nat->Nat):Nat->List Chunk->Prop
 |_,[]=>True
 |j,c::l=>h (ρ j)=mS ρ c/\bM h ρ (j+1) l
theorem BS {h:Nat->Chunk}{ρ:Nat->Nat}:∀{l:List Chunk}{i:Nat},bM h ρ i l->∀{j:Nat},j < l.length->h (ρ (i+j))=mS ρ (aD l j)
 |c::l,i,⟨h1,h2⟩,0,_=>h1
 |c::l,i,⟨h1,h2⟩,j+1,hj=>by
  have:=BS h2 (j:=j) (by simpa using hj);rw[show i+1+j=i+(j+1) by omega]at this;exact this
theorem uU (ρ:Nat->Nat):∀(l:List Chunk) (i:Nat),(lJ ρ i l).map (·.1)=(X8 l.length).map fun j=>ρ (i+j)
 |[],i=>rfl
 |c::l,i=>by
  rw[lJ,Xm,uU ρ l (i+1),Xx,List.range_succ_eq_map,Xm,Z6];congr 1;refine Y4 fun j _=>?_;simp only[Function.comp];rw[show i+1+j=i+(j+1) by omega]
theorem DA {ρ:Nat->Nat}(a1z:∀i j,ρ i=ρ j->i=j){h:Nat->Chunk}:∀(l:List Chunk) (i j:Nat),j < l.length->cH (lJ ρ i l) h (ρ (i+j))=mS ρ (aD l j)
 |c::l,i,0,_=>by simp[lJ,cH,aD]
 |c::l,i,j+1,hj=>by
  simp only[lJ,cH];rw[af (fun e=>by have:=a1z _ _ e;omega)];have:=DA a1z (h:=h) l (i+1) j (by simpa using hj);rw[show i+1+j=i+(j+1) by omega]at this;exact this
theorem Fk {ρ:Nat->Nat}{h:Nat->Chunk}{k:Nat}:∀(l:List Chunk) (i:Nat),(∀j,j < l.length->ρ (i+j)≠k)->cH (lJ ρ i l) h k=h k
 |[],_,_=>rfl
 |c::l,i,hk=>by
  simp only[lJ,cH];rw[af (fun e=>hk 0 ah (by simpa using e.symm))];exact Fk l (i+1) fun j hj e=>hk (j+1) (by simpa using hj) (by rw[<-e];congr 1;omega)
end Go.Proofs.YtojojebildofnaaGreatDoor
