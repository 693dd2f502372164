/- Texts of this work, joined. -/
import Derived.Test.YtojojebildofnaaGreatDoorZHDeskShows0
import Derived.WalkKit
import Derived.WalkSmall
import Derived.Tactics2
import Derived.WalkLawsBesides
import Derived.WalkSpells
import Derived.KernelRfl
import Derived.Deep.QuietTactic
import Derived.BigQuiet
import Derived.Outline
import Derived.Lib.Hide
import Derived.Deep.LoopGhost
import Derived.Deep.DeepFit
import Derived.Test.YtojojebildofnaaGreatDoorProg
import Derived.Laws.BitsAllLaws
import Derived.Laws.BitsLemmas
import Derived.RegionTactic
import Derived.Laws.BytesArg
import Derived.Laws.OwnMore
import Derived.Laws.ResultCell
import Derived.Laws.Strings
import Derived.Deep.RegionHeld3
import Derived.Laws.IdiomStrings
import Derived.Laws.AppendOwn
import Derived.WalkMore
import Derived.WideKeyRuns
import Derived.Carry
import Derived.Laws.MakeOwn
set_option linter.unusedSimpArgs false
set_option linter.unusedVariables false
set_option maxRecDepth 100000
set_option maxHeartbeats 16000000
namespace Go.Proofs.YtojojebildofnaaGreatDoor
open Go Go.RowKit Go.Proofs.Tryz
open _root_.List renaming getElem?_eq_getElem → Xj, mem_of_getElem? → Xl, map_cons → Xm, getElem?_eq_some_iff → Xo, length_take → Xp, take_length → Xq, length_append → Xt, set_cons_zero → Xv, set_cons_succ → Xw, getElem?_map → XA, all_eq_true → XB, length_cons → XD, getD_eq_getElem?_getD → XE, length_map → XF, mem_map → XH, take_of_length_le → XI, getElem?_eq_none → XN, getElem?_append_right → XP, getElem?_take_of_lt → XQ, replicate → XR, length_drop → XS, append_assoc → XT, mem_cons → XY, eq_nil_of_length_eq_zero → XZ, range → X3, mem_append → X4, getElem?_append_left → X5, cons_append → X6, mem_singleton → X7, length_nil → X8, getElem_of_mem → X9, append_nil → Ya, mem_of_mem_drop → Yb, mem_of_mem_take → Yc, nil_append → Ye, ext_getElem? → Yh, getElem?_drop → Yk, getElem_mem → Ym, take_append_of_le_length → Yp, take_zero → YA, size_toArray → YB, flatten_cons → YE, foldl_cons → YG, getElem?_cons_succ → YJ, mem_range → YP, mem_cons_of_mem → YR, drop_eq_getElem_cons → YV, all_eq_false → YX, flatMap_append → Y1, map_congr_left → Y2, toList_toArray → Y3, mem_or_eq_of_mem_set → Y6, mem_map_of_mem → Za, length_pos_iff → Zh, filter_filter → Zj, getElem?_take → Zk, take_succ_eq_append_getElem → Zq, foldl_append → Zr, mem_filter → Zt, length_filter_le → Zw, eq_of_mem_replicate → Zx, flatMap_cons → ZF, take_succ_cons → ZI, filter_append → ZN, mem_append_left → ZW, getElem?_range → Z2, getElem_map → Z4, mem_flatten → Z5, getElem?_replicate → Z6, map_map → Z8, length_set → A', filter_congr → B', flatten_append → L', range_succ → P', filter_eq_nil_iff → S', drop_of_length_le → V', filter_cons → _f, mem_toArray → _m, drop_append → _n
open Go.Lib renaming hid → Xk
open Go.World renaming size_alloc → Xr, cell? → YQ, cell?_of_block → Zn, setRow → ZK, ownsRow_nil → Q', alloc_eq → U'
open _root_.Bool renaming and_eq_true → Xy, and_self → Yn, and_true → Yz, true_and → YC, false_eq_true → YY, or_eq_false_iff → Zo, not_eq_true' → ZV
open _root_.Nat renaming le_refl → XC, zero_add → XK, zero_le → XL, lt_or_ge → XO, add_zero → X0, mul_le_mul_right → Yo, sub_zero → Yr, lt_of_lt_of_le → Yt, le_trans → Yu, succ_mul → YI, lt_trichotomy → Y4, sub_self → Y8, add_assoc → Zd, eq_zero_or_pos → Zl, mul_comm → Zs, add_mul → Zu, div_lt_of_lt_mul → ZB, div_add_mod → ZT, mod_lt → _i
open _root_.Option renaming map_eq_some_iff → XG, some → XX, map_some → Yg, getD_some → Yy, bind_some → YW, map_none → Zi
open _root_.Array renaming getElem?_toList → X2, getElem?_eq_none → Yj, getElem?_eq_some_iff → Yq, getD_eq_getD_getElem? → Ys, getElem?_eq_getElem → YN, getElem?_modify → Y0, replicate → Y9, length_toList → ZH, mem_of_getElem? → ZR, ext' → Z9, toList_map → F', getElem?_setIfInBounds_ne → _d, toArray_toList → _g, range → _k
open _root_.ByteArray renaming size_extract → Y7, size_append → Zb, ext → ZL, data_append → ZQ, toList_eq → J'
open _root_.Int renaming eq_ofNat_of_zero_le → ZE, toNat_of_nonneg → Z3
abbrev cW (w w':World):Prop:=Below w.heap.size w w'
structure Bel (B:Nat)(a w:World):Prop where
 bel:Below B a w
 le:B≤w.heap.size
theorem Bel.refl (w:World):Bel w.heap.size w w:=⟨Below.refl _ _,XC _⟩
theorem Bel.alloc {B:Nat}{a w:World}(h:Bel B a w)(o:Obj):Bel B a (w.alloc o):=⟨h.bel.alloc h.le o,by have:=h.le;simp;omega⟩
theorem Bel.setCell {B:Nat}{a w:World}(h:Bel B a w){p:Addr}(hp:B≤p.block)(u:Value):Bel B a (w.setCell p u):=
 ⟨h.bel.setCell hp u,by have:=h.le;simpa[World.setCell]using this⟩
theorem ak {B:Nat}{a w:World}(h:Bel B a w){b o:Nat}(hp:B≤b)(u:Value):Bel B a (w.setCell ⟨b,o,none⟩ u):=h.setCell (p:=⟨b,o,none⟩) hp u
theorem Bel.drewN {B:Nat}{a w:World}(h:Bel B a w)(n:Nat):Bel B a (w.drewN n):=⟨below_drewN h.bel n,h.le⟩
theorem Bel.drew {B:Nat}{a w:World}(h:Bel B a w):Bel B a w.drew:=⟨h.bel.drew,h.le⟩
theorem Bel.call {B:Nat}{a w w':World}(h:Bel B a w)(k:cW w w'):Bel B a w':=⟨h.bel.trans (k.mono h.le),Yu h.le k.size⟩
theorem Bel.ext {a w:World}(h:Bel a.heap.size a w):cW a w:=h.bel
theorem Bel.cell {B:Nat}{a w:World}(h:Bel B a w){b off:Nat}{v:Value}(hb:b < B)(hc:a.cell? ⟨b,off,none⟩=some v):w.cell? ⟨b,off,none⟩=some v:=
 (h.bel.cell (p:=⟨b,off,none⟩) hb).trans hc
theorem aI {W w1:World}(hb:cW W w1):(∀b o,b < W.heap.size→w1.cell? ⟨b,o,none⟩=W.cell? ⟨b,o,none⟩)∧(∀b o,b < W.heap.size→w1.frozen? ⟨b,o,none⟩=W.frozen? ⟨b,o,none⟩):=
 ⟨fun b o h=>hb.cell (p:=⟨b,o,none⟩) h,fun b o h=>hb.frozen (p:=⟨b,o,none⟩) h⟩
theorem bw {W w1:World}(hb:cW W w1):W.heap.size≤w1.heap.size:=hb.size
theorem aa (w:World)(a:Addr)(v:Value):(w.setCell a v).heap.size=w.heap.size:=by simp[World.setCell]
theorem cP {X w1:World}(h:cW X w1){b o:Nat}{v:Value}(hc:X.cell? ⟨b,o,none⟩=some v):w1.cell? ⟨b,o,none⟩=some v:=
 (h.cell (p:=⟨b,o,none⟩) (World.block_lt_of_cell? X ⟨b,o,none⟩ hc)).trans hc
abbrev md:=Nat→Prop
def lD (w:World)(b off:Nat)(cs:List Value):Prop:=∀i (h:i < cs.length),w.cell? ⟨b,off+i,none⟩=some cs[i]
structure Sl {α:Type}(A:md)(w:World)(k:Nat)(R:List Value→α→Prop)(ao:Option Addr)(cap:Nat)(l:List α):Prop where
 cap_le:l.length≤cap
 cap_max:cap≤9223372036854775807
 elem:∀i (h:i < l.length),∃b off cs,ao=some ⟨b,off,none⟩∧A b∧cs.length=k∧R cs l[i]∧lD w b (off+i*k) cs
def U4 {α:Type}(A:md)(w:World)(k:Nat)(R:List Value→α→Prop)(v:Value)(l:List α):Prop:=
 ∃ao cap,v= .slice ao l.length cap∧Sl A w k R ao cap l
theorem dn {w:World}{b off:Nat}{v:Value}(h:w.cell? ⟨b,off,none⟩=some v):b < w.heap.size:=by
 rcases XO b w.heap.size with hb|hb
 ·exact hb
 ·simp[YQ,Yj hb]at h
theorem aG {w:World}{b o:Nat}{cs:Array Value}{t:TypeId}{f:Nat × Nat}{v:Value}(h:w.heap[b]? =some (.cells cs t f))(hv:cs[o]? =some v):w.cell? ⟨b,o,none⟩=some v:=by
 simp[YQ,h,hv]
theorem gj {w:World}{b o:Nat}{cs:Array Value}{t:TypeId}(h:w.heap[b]? =some (.cells cs t (0,0))):w.frozen? ⟨b,o,none⟩=false:=by
 simp[World.frozen?,h]
theorem t7 {w w':World}{base:Nat}{e:TypeId}{size n:Nat}{v:Value}{xs:List Value}{b:Nat}{o:Obj}(bt:w.ownsRow base e size v n xs)(hg:w.grownBy w' v.ownBlock)
 (hb:w.heap[b]? =some o) (bH:∀cur,o≠ .cells cur e (0,0)):w'.heap[b]? =some o:=by
 have hlt:b < w.heap.size:=by
  rcases XO b w.heap.size with h|h
  ·exact h
  ·simp[Yj h]at hb
 refine(hg.block b hlt ?_).trans hb;intro he;obtain⟨_,h|⟨g,cap,cur,rfl,_,hh,_⟩⟩:=bt
 ·rw[h.1]at he;cases he
 ·simp only[Value.ownBlock,XX.injEq]at he;rw[←he,hb]at hh;exact bH cur (by simpa using hh)
theorem Bel.grownOwn {B:Nat}{a w w':World}{base:Nat}{e:TypeId}{size n:Nat}{v:Value}{xs:List Value}(h:Bel B a w)(bt:w.ownsRow base e size v n xs)(hg:w.grownBy w' v.ownBlock)(hB:B≤base):Bel B a w':=
 ⟨h.bel.grown hg h.le (fun k hk=>by
  obtain⟨_,h|⟨g,cap,cur,rfl,UQ,_⟩⟩:=bt
  ·rw[h.1]at hk;cases hk
  ·simp only[Value.ownBlock,XX.injEq]at hk;omega),Yu h.le hg.size⟩
theorem bQ {w:World}{o:Obj}{b:Nat}{x:Obj}(h:w.heap[b]? =some x):(w.alloc o).heap[b]? =some x:=by
 have hlt:b < w.heap.size:=by
  rcases XO b w.heap.size with h'|h'
  ·exact h'
  ·simp[Yj h']at h
 rw[Below.heap_alloc _ _ _ hlt,h]
theorem b8 (w:World)(o:Obj):(w.alloc o).heap[w.heap.size]? =some o:=by
 show (w.heap.push o)[w.heap.size]? =_;simp
theorem kA {w:World}{n:Nat}(o:Obj)(h:w.heap.size=n):(w.alloc o).heap[n]? =some o:=by subst h;exact b8 w o
theorem iO {w:World}{b:Nat}:w.drew.heap[b]? =w.heap[b]? :=rfl
theorem lY {w:World}{b o:Nat}{c:Array Value}{t:TypeId}{f:Nat × Nat}(h:w.heap[b]? =some (.cells c t f))(v:Value):(w.setCell ⟨b,o,none⟩ v).heap[b]? =some (.cells (c.setIfInBounds o v) t f):=by
 simp[World.setCell,Y0,h]
theorem dU {w:World}{b:Nat}{a:Addr}(v:Value)(h:a.block≠b):(w.setCell a v).heap[b]? =w.heap[b]? :=Below.heap_setCell _ _ _ _ (fun e=>h e.symm)
theorem sN {w w':World}(hx:cW w w'){b:Nat}{o:Obj}(hb:w.heap[b]? =some o):w'.heap[b]? =some o:=by
 have hlt:b < w.heap.size:=by
  rcases XO b w.heap.size with h|h
  ·exact h
  ·simp[Yj h]at hb
 rw[hx.block b hlt,hb]
theorem ou {w w':World}(hx:cW w w'){base:Nat}{e:TypeId}{size n:Nat}{v:Value}{xs:List Value}(h:w.ownsRow base e size v n xs):w'.ownsRow base e size v n xs:=by
 obtain⟨h1,h2⟩:=h;refine⟨h1,?_⟩;rcases h2 with h2|⟨g,cap,cur,hv,hg,hh,r⟩
 ·exact .inl h2
 ·exact .inr ⟨g,cap,cur,hv,hg,sN hx hh,r⟩
theorem au (w:World)(o:Obj):cW w (w.alloc o):=((Bel.refl w).alloc o).bel
theorem ag {a b c:World}(h:cW a b)(k:cW b c):cW a c:=Below.trans h (Below.mono k h.size)
def B8 (W:World)(R:Value→Prop)(e:Ending)(w':World):Prop:=(∃u,e= .returned u∧R u)∧cW W w'
def UJ (P:Program)(W w:World)(R:Value→Prop):Result Next→Prop
 | .ok (.value u) w'=>w'=w∧R u
 | .ok .skip w'=>w'=w∧R undef
 | .ok (.enter f args) w'=>w'=w∧Calls P f args w (B8 W R)
 |_=>False
attribute [go_sem] UJ
section
variable {P:Program}{ops:Array Oper}{W:World}{Q:Act→Prop}{o:Oper}{rest:List Oper}{a:Act}
theorem sO {w:World}{v:Value}{r:Result Next}(h:∀R:Value→Prop,R v→UJ P W w R r):Oper.quietUpon P (cW W) w v r:=by
 have h1:=h (·=v) rfl;unfold UJ at h1;unfold Oper.quietUpon;split at h1
 ·exact h1
 ·exact⟨h1.1,h1.2.symm⟩
 ·refine⟨h1.1,h1.2.mono ?_⟩;rintro e w' ⟨⟨u,rfl,rfl⟩,hw⟩;exact⟨rfl,hw⟩
 ·exact h1.elim
theorem dC {v:Value}(hw:Region.wanted o (yielded ops a.tmps)=true)(h:∀w,cW W w→∀R:Value→Prop,R v→UJ P W w R ((execOp a.eval o).run P w))
 (hn:wpQuiet P ops (cW W) Q rest (a.put o.dst v)):wpQuiet P ops (cW W) Q (o::rest) a:=by
 unfold wpQuiet;rw[if_pos hw];exact⟨v,fun w hC=>sO (h w hC),hn⟩
theorem qu (hw:Region.wanted o (yielded ops a.tmps)=false)(hn:wpQuiet P ops (cW W) Q rest (a.put o.dst undef)):wpQuiet P ops (cW W) Q (o::rest) a:=by
 unfold wpQuiet;rw[if_neg (by rw[hw];simp)];exact hn
section
variable {j d:Nat}{v:Value}{W:World}{Q:Act→Prop}
theorem fA {b:Bool}(hd:(ops[j]?).bind (·.dst)=some d)(hv:a.tmps.toList[d]? =some v)(hb:v= .bool b):yielded ops a.tmps j=some b:=by
 subst hb;rw[X2]at hv;simp[yielded,hd,hv]
theorem m6 (hd:(ops[j]?).bind (·.dst)=some d)(hv:a.tmps.toList[d]? =some v)(hb:v=undef):yielded ops a.tmps j=none:=by
 subst hb;rw[X2]at hv;simp[yielded,hd,hv,undef]
theorem jF (hg:o.guard=some (j,true))(hd:(ops[j]?).bind (·.dst)=some d)(hv:a.tmps.toList[d]? =some v)(hb:v= .bool false)(hn:wpQuiet P ops (cW W) Q rest (a.put o.dst undef)):wpQuiet P ops (cW W) Q (o::rest) a:=
 qu (by simp[Region.wanted,hg,fA hd hv hb]) hn
theorem jG (hg:o.guard=some (j,false))(hd:(ops[j]?).bind (·.dst)=some d)(hv:a.tmps.toList[d]? =some v)(hb:v= .bool true)(hn:wpQuiet P ops (cW W) Q rest (a.put o.dst undef)):wpQuiet P ops (cW W) Q (o::rest) a:=
 qu (by simp[Region.wanted,hg,fA hd hv hb]) hn
theorem jH {b:Bool}(hg:o.guard=some (j,b))(hd:(ops[j]?).bind (·.dst)=some d)(hv:a.tmps.toList[d]? =some v)(hb:v=undef)(hn:wpQuiet P ops (cW W) Q rest (a.put o.dst undef)):wpQuiet P ops (cW W) Q (o::rest) a:=
 qu (by simp[Region.wanted,hg,m6 hd hv hb]) hn
theorem bp (hg:o.guard=none):Region.wanted o (yielded ops a.tmps)=true:=by simp[Region.wanted,hg]
theorem bE {b:Bool}(hg:o.guard=some (j,b))(hd:(ops[j]?).bind (·.dst)=some d)(hv:a.tmps.toList[d]? =some v)(hb:v= .bool b):Region.wanted o (yielded ops a.tmps)=true:=by
 simp[Region.wanted,hg,fA hd hv hb]
end
theorem jl {f:FuncId}{args:Array Value}{w:World}{R:Value→Prop}{v:Value}(hw:cW W w)(h:Calls P f args w fun e w'=>e= .returned v∧cW w w')(hR:R v):Calls P f args w (B8 W R):=
 h.mono fun _ _ ⟨he,hx⟩=>⟨⟨v,he,hR⟩,hw.trans (hx.mono hw.size)⟩
theorem qv {f:FuncId}{args:Array Value}{w:World}{R:Value→Prop}{v:Value}(hw:cW W w)(h:Calls P f args w fun e w'=>e= .returned v∧w=w')(hR:R v):Calls P f args w (B8 W R):=
 h.mono fun _ _ ⟨he,hx⟩=>⟨⟨v,he,hR⟩,hx ▸ hw⟩
theorem dD {id:Nat}{Q:Exit→Act→World→Prop}{w:World}{l:List Oper}(hm:P.follows .mixedOrders=true)(hB:Region.lexB .any l.toArray=true)
 (h:wpQuiet P l.toArray (cW w) (fun a'=>∀w',cW w w'→Q .normal a' w') l a):(Code.region id l.toArray true).wp P Q a w:=
 wp_region_quiet (C:=cW w) hm hB (Below.refl _ _).drew (by simpa using h)
end
section
variable {P:Program}{ops:Array Oper}{w:World}{Q:Exit→Act→World→Prop}{a:Act}{n:Nat}{listed:Array Bool}
end
theorem bM {k:IntKind}{a b:Int}(h:a=b):Ending.returned (.int k a)= .returned (.int k b):=by rw[h]
theorem dw {a b:Bool}(h:a=b):Ending.returned (.bool a)= .returned (.bool b):=by rw[h]
section
open Go.Proofs
theorem ki (a:Nat)(ha:a < 9223372036854775808):(BitVec.ofInt 64 (a:Int)).toNat=a:=by
 rw[BitVec.ofInt_natCast,BitVec.toNat_ofNat];exact Nat.mod_eq_of_lt (by omega)
theorem B9 (a b:Nat)(ha:a < 9223372036854775808)(hb:b < 9223372036854775808):bits .and .i64 (a:Int) (b:Int)=((a&&& b:Nat):Int):=by
 have hx:a&&& b < 2 ^ 63:=Nat.and_lt_two_pow _ (by omega);show IntKind.i64.wrap ((BitVec.ofInt 64 (a:Int)&&& BitVec.ofInt 64 (b:Int)).toNat:Int)=_;rw[BitVec.toNat_and,ki a ha,ki b hb,IntKind.wrap_i64];omega
end
section
open Go.Proofs
theorem qw (b:Nat)(w:World)(c0:Value)(hc:w.cell? ⟨b,0,none⟩=some c0):
 Calls prog 49 #[.pointer (some ⟨b,0,none⟩)] w fun e w'=>
  e= .returned (.slice (some ⟨w.heap.size,0,none⟩) 9 9)∧w'=(w.alloc (.cells #[.pointer (some ⟨b,1,none⟩),.pointer (some ⟨b,2,none⟩),.pointer (some ⟨b,3,none⟩),.pointer (some ⟨b,4,none⟩),.pointer (some ⟨b,5,none⟩),.pointer (some ⟨b,6,none⟩),.pointer (some ⟨b,7,none⟩),.pointer (some ⟨b,8,none⟩),.pointer (some ⟨b,9,none⟩)] 124)).drew:=by
 go_enter func49,ntmps49
 go_wp2_with fail
 go_region
 go_wp2_with fail
 go_ret
 exact⟨rfl,rfl⟩
structure WCmd where
 op:Int
 a:Int
 b:Int
 c:Int
 at_:Int
 len:Int
 min:Int
 max:Int
 usual:Int
 cool:Int
 deriving DecidableEq
def WCmd.nums (c:WCmd):List Int:=[c.a,c.b,c.c,c.at_,c.len,c.min,c.max,c.usual,c.cool]
def WCmd.cs (c:WCmd):Array Value:=#[.int .i64 c.op,.int .i64 c.a,.int .i64 c.b,.int .i64 c.c,.int .i64 c.at_,.int .i64 c.len,.int .i64 c.min,.int .i64 c.max,.int .i64 c.usual,.int .i64 c.cool]
def uJ (n:Int):Bool:=decide (-2147483648≤n)&&decide (n≤2147483647)
def GV (n:Int):List Int:=[n / 16777216 % 256,n / 65536 % 256,n / 256 % 256,n % 256]
theorem Gy:(prog.info? 5).map (fun i=>(i.zero,i.size,i.bytes))=some (some (.int .u8 0),1,1):=by kernel_rfl
def AD (b:Nat):Array Value:=#[.pointer (some ⟨b,1,none⟩),.pointer (some ⟨b,2,none⟩),.pointer (some ⟨b,3,none⟩),.pointer (some ⟨b,4,none⟩),.pointer (some ⟨b,5,none⟩),.pointer (some ⟨b,6,none⟩),.pointer (some ⟨b,7,none⟩),.pointer (some ⟨b,8,none⟩),.pointer (some ⟨b,9,none⟩)]
theorem KR (b j:Nat)(h:j < 9):(AD b)[j]? =some (.pointer (some ⟨b,j+1,none⟩)):=by
 match j,h with
 |0,_|1,_|2,_|3,_|4,_|5,_|6,_|7,_|8,_=>rfl
theorem U5 (c:WCmd)(j:Nat)(h:j < 9):c.cs[j+1]? =some (.int .i64 (c.nums.getD j 0)):=by
 match j,h with
 |0,_|1,_|2,_|3,_|4,_|5,_|6,_|7,_|8,_=>rfl
theorem zb (c:WCmd)(j:Nat)(h:j < 9):c.nums.take (j+1)=c.nums.take j++[c.nums.getD j 0]:=by
 match j,h with
 |0,_|1,_|2,_|3,_|4,_|5,_|6,_|7,_|8,_=>rfl
def iP (xs:List Int):List Value:=xs.map (.int .u8)
def KS (c:WCmd)(w:World)(n:Nat)(xs:List Int)(v:Value)(wr:World):Prop:=
 wr.ownsRow (w.heap.size+1) 5 1 v n (iP xs)∧wr.heap[w.heap.size]? =some (.cells c.cs 27 (0,0))∧wr.heap[w.heap.size+2]? =some (.cells (AD w.heap.size) 124 (0,0))∧Bel w.heap.size w wr
theorem pp {c:WCmd}{w wr w1:World}{n:Nat}{xs:List Int}{v v':Value}{x:Int}{o:Obj}(h:KS c w n xs v wr)
 (bt:w1.ownsRow (w.heap.size+1) 5 1 v' (n+1) (iP xs++[.int .u8 x])) (hg:(wr.alloc o).grownBy w1 v.ownBlock):KS c w (n+1) (xs++[x]) v' w1:=by
 obtain⟨h1,h2,h3,h4⟩:=h;refine⟨by simpa[iP]using bt,?_,?_,?_⟩
 ·exact t7 (h1.alloc o) hg (bQ h2) (by intro cur hc;cases hc)
 ·exact t7 (h1.alloc o) hg (bQ h3) (by intro cur hc;cases hc)
 ·exact(h4.alloc o).grownOwn (h1.alloc o) hg (by omega)
def kB (c:WCmd):Value:=if c.nums.all uJ then .tuple #[.string (strOfNums (c.op::c.nums.flatMap GV)),.int .i64 0]else .tuple #[.string ⟨#[]⟩,.int .i64 3]
theorem KU {P:Program}{w:World}{base e src n:Nat}{v:Value}{xs:List Int}(h:w.ownsRow base e 1 v n (iP xs))(hn:0 < n)(hs:P.underlying src=some (.slice e))(he:P.underlying e=some (.int .u8)):
 ∃g cap,v= .slice (some ⟨g,0,none⟩) n cap∧∀dst,P.underlying dst=some .string→(convert src dst (.slice (some ⟨g,0,none⟩) n cap)).run P w= .ok (.string (strOfNums xs)) w:=by
 obtain⟨hl,h|⟨g,cap,cur,rfl,hg,hh,hle,hm,hs',ht⟩⟩:=h
 ·omega
 ·refine⟨g,cap,rfl,run_convert_bytes_arg w src e hs he g 0 n cap xs (by simpa[iP]using hl) fun i hi=>?_⟩;have VF:xs.length=n:=by simpa[iP]using hl
  refine aG hh ?_;have h1:(cur.toList.take (n*1))[i]? =(iP xs)[i]? :=by rw[ht]
  rw[XQ (by omega),X2]at h1;simp only[XK];rw[h1];simp[iP,Xj (show i < xs.length by omega)]
theorem KV (c:WCmd)(w:World)(h0:0≤c.op)(h1:c.op≤255):
 Calls prog 23 #[.agg c.cs] w fun e w'=>
  e= .returned (kB c)∧cW w w':=by
 have fk:KS c w 1 [c.op] (.slice (some ⟨w.heap.size+1,0,none⟩) 1 1) ((((w.alloc (.cells c.cs 27)).alloc (.cells #[.int .u8 c.op] 5)).alloc (.cells (AD w.heap.size) 124)).drew):=by
  refine⟨⟨rfl,.inr ⟨w.heap.size+1,1,#[.int .u8 c.op],rfl,XC _,?_,XC _,by decide,rfl,rfl⟩⟩,?_,?_,?_⟩
  ·exact iO.trans (bQ (by have:=b8 (w.alloc (.cells c.cs 27)) (.cells #[.int .u8 c.op] 5);simpa using this))
  ·exact iO.trans (bQ (bQ (b8 _ _)))
  ·exact iO.trans (by have:=b8 ((w.alloc (.cells c.cs 27)).alloc (.cells #[.int .u8 c.op] 5)) (.cells (AD w.heap.size) 124);simpa using this)
  ·exact(((Bel.refl w).alloc _).alloc _).alloc _|>.drew
 unfold WCmd.cs AD at fk;replace fk:=Xk fk;unfold WCmd.cs;obtain⟨i0,hi,Au,nZ,uZ⟩:=info_parts Gy;go_enter func23,ntmps23
 go_wp2_with fail
 refine(qw _ _ (.int .i64 c.op) (by go_simp)).mono ?_;rintro e w1 ⟨rfl,rfl⟩;go_wp2_with fail
 go_loopw [4,23] (fun v k wr=>∃j:Nat,j≤9∧k= .int .i64 j∧(∀n∈c.nums.take j,uJ n=true)∧KS c w (1+4*j) (c.op::(c.nums.take j).flatMap GV) v wr) (fun _ k _=>9 - (intOf k).toNat)
 case atStart=>exact⟨0,by omega,rfl,by simp,fk.out⟩
 case round=>
  obtain⟨j,hj,rfl,bK,hrel⟩:=hrel;by_cases hlt:j < 9
  ·obtain⟨bt,RE,W6,jO⟩:=hrel;obtain⟨n,hn⟩:∃n,n=c.nums.getD j 0:=⟨_,rfl⟩;have ec:(j:Int) < 9:=by omega
   have hp:=aG W6 (KR _ j hlt);have hc:=aG RE (U5 c j hlt);rw[←hn]at hc;replace bK:=Xk bK;replace hn:=Xk hn;replace RE:=Xk RE;replace W6:=Xk W6;by_cases iG:uJ n=true
   ·obtain⟨b1,b2⟩: -2147483648≤n∧n≤2147483647:=by simpa[uJ]using iG
    clear iG;clear fk;go_wp2_with fail
    obtain⟨wo,rfl⟩:∃wo:World,wo=wr:=⟨_,rfl⟩;go_loopw [4,8] (fun v2 i wr2=>∃t:Nat,t≤4∧i= .int .i64 (24 - 8*(t:Int))∧KS c w (1+4*j+t) ((c.op::(c.nums.take j).flatMap GV)++(GV n).take t) v2 wr2) (fun _ i _=>(intOf i+8).toNat)
    case atStart=>exact⟨0,by omega,rfl,by simpa using bt,RE.out,W6.out,jO⟩
    case round=>
     obtain⟨t,ht,rfl,jB,xQ,xR,lV⟩:=hrel;clear bt hp hc jO;replace xQ:=Xk xQ;replace xR:=Xk xR;have hle:=lV.le;match t,ht with
     |0,_=>
      go_wp2_with (at_builtin;refine wpList_append_own _ rfl _ _ 74 rfl (w.heap.size+1) 5 i0 (.int .u8 0) 1 1 underlying74 hi Au nZ uZ rfl (by decide) _ _ _ rfl (jB.alloc _) ⟨wr.heap.size,0,none⟩ 1 1 [.int .u8 (n / 16777216 % 256)] rfl rfl (cell_one_new _ _ _) (by intro u hu;simp at hu;subst hu;rfl) (by unfold maxLen;omega) (by omega) (by simp;omega) ?_;intro v' w1 dL jU _)
      have R:=pp (x:=n / 16777216 % 256) ⟨jB,xQ.out,xR.out,lV⟩ dL jU;clear dL jU jB xQ xR lV;go_roundw
      case rel=>exact⟨0+1,by omega,by go_num,by simpa[GV,iP,Zd]using R⟩
      case measure=>simp[intOf]
     |1,_=>
      go_wp2_with (at_builtin;refine wpList_append_own _ rfl _ _ 74 rfl (w.heap.size+1) 5 i0 (.int .u8 0) 1 1 underlying74 hi Au nZ uZ rfl (by decide) _ _ _ rfl (jB.alloc _) ⟨wr.heap.size,0,none⟩ 1 1 [.int .u8 (n / 65536 % 256)] rfl rfl (cell_one_new _ _ _) (by intro u hu;simp at hu;subst hu;rfl) (by unfold maxLen;omega) (by omega) (by simp;omega) ?_;intro v' w1 dL jU _)
      have R:=pp (x:=n / 65536 % 256) ⟨jB,xQ.out,xR.out,lV⟩ dL jU;clear dL jU jB xQ xR lV;go_roundw
      case rel=>exact⟨1+1,by omega,by go_num,by simpa[GV,iP,Zd]using R⟩
      case measure=>simp[intOf]
     |2,_=>
      go_wp2_with (at_builtin;refine wpList_append_own _ rfl _ _ 74 rfl (w.heap.size+1) 5 i0 (.int .u8 0) 1 1 underlying74 hi Au nZ uZ rfl (by decide) _ _ _ rfl (jB.alloc _) ⟨wr.heap.size,0,none⟩ 1 1 [.int .u8 (n / 256 % 256)] rfl rfl (cell_one_new _ _ _) (by intro u hu;simp at hu;subst hu;rfl) (by unfold maxLen;omega) (by omega) (by simp;omega) ?_;intro v' w1 dL jU _)
      have R:=pp (x:=n / 256 % 256) ⟨jB,xQ.out,xR.out,lV⟩ dL jU;clear dL jU jB xQ xR lV;go_roundw
      case rel=>exact⟨2+1,by omega,by go_num,by simpa[GV,iP,Zd]using R⟩
      case measure=>simp[intOf]
     |3,_=>
      go_wp2_with (at_builtin;refine wpList_append_own _ rfl _ _ 74 rfl (w.heap.size+1) 5 i0 (.int .u8 0) 1 1 underlying74 hi Au nZ uZ rfl (by decide) _ _ _ rfl (jB.alloc _) ⟨wr.heap.size,0,none⟩ 1 1 [.int .u8 (n % 256)] rfl rfl (cell_one_new _ _ _) (by intro u hu;simp at hu;subst hu;rfl) (by unfold maxLen;omega) (by omega) (by simp;omega) ?_;intro v' w1 dL jU _)
      have R:=pp (x:=n % 256) ⟨jB,xQ.out,xR.out,lV⟩ dL jU;clear dL jU jB xQ xR lV;go_roundw
      case rel=>exact⟨3+1,by omega,by go_num,by simpa[GV,iP,Zd]using R⟩
      case measure=>simp[intOf]
     |4,_=>
      go_wp2_with fail
      go_roundw
      case rel=>exact⟨j+1,by omega,by go_num,(by
       intro m hm;rw[zb c j hlt]at hm;rcases X4.1 hm with hm|hm
       ·exact bK.out m hm
       ·rw[X7.1 hm,←hn.out];simp[uJ,b1,b2]),(by
       rw[zb c j hlt,Y1,←hn.out];exact⟨by rw[show 1+4*(j+1)=1+4*j+4 from by omega];simpa[GV,iP]using jB,xQ.out,xR.out,lV⟩)⟩
      case measure=>simp[intOf];omega
   ·clear fk;replace iG:=(Bool.not_eq_true _).mp iG;have bH:(wrap64 (wrap32 n) !=n)=true:=by
     rw[bne_iff_ne];intro he;have:¬(-2147483648≤n∧n≤2147483647):=by intro hh;simp[uJ,hh]at iG
     unfold wrap64 wrap32 at he;omega
    have hr:kB c= .tuple #[.string ⟨#[]⟩,.int .i64 3]:=by
     have:c.nums.all uJ=false:=by
      rw[YX];refine⟨n,?_,by simp[iG]⟩;rw[hn.out];match j,hlt with
      |0,_|1,_|2,_|3,_|4,_|5,_|6,_|7,_|8,_=>simp[WCmd.nums]
     unfold kB;rw[this];rfl
    replace hr:=Xk hr;go_wp2_with fail
    go_ret2
    exact⟨by rw[hr.out];rfl,jO.bel⟩
  ·obtain rfl:j=9:=by omega
   clear fk hlt;obtain⟨bt,-,-,jO⟩:=hrel;obtain⟨g,cap,rfl,Av⟩:=KU (P:=prog) bt (by omega) underlying74 underlying5;replace Av:=Av 9 underlying9;have hr:kB c= .tuple #[.string (strOfNums (c.op::c.nums.flatMap GV)),.int .i64 0]:=by
    have:c.nums.all uJ=true:=by
     rw[XB];exact bK
    unfold kB;rw[this];rfl
   have ht:c.nums.take 9=c.nums:=rfl;rw[ht]at Av;replace hr:=Xk hr;clear bt bK ht;go_wp2_with fail
   go_ret2
   exact⟨by rw[hr.out];rfl,jO.bel⟩
end
section
open Go.Proofs
def dE (n lo hi:Int):Bool:=decide (lo≤n)&&decide (n≤hi)
theorem m7 (n lo hi:Int)(w:World):
 Calls prog 55 #[.int .i64 n,.int .i64 lo,.int .i64 hi] w fun e w'=>e= .returned (.bool (dE n lo hi))∧w=w':=by
 by_cases h1:lo≤n
 ·by_cases h2:n≤hi
  ·have hr:dE n lo hi=true:=by simp[dE,h1,h2]
   replace hr:=Xk hr;go_enter func55,ntmps55
   go_wp2_with fail
   go_ret
   first|exact⟨dw hr.out.symm,rfl⟩|exact⟨rfl,rfl⟩
  ·have hr:dE n lo hi=false:=by simp[dE,h2]
   replace hr:=Xk hr;go_enter func55,ntmps55
   go_wp2_with fail
   go_ret
   first|exact⟨dw hr.out.symm,rfl⟩|exact⟨rfl,rfl⟩
 ·have hr:dE n lo hi=false:=by simp[dE,h1]
  replace hr:=Xk hr;go_enter func55,ntmps55
  go_wp2_with fail
  go_ret
  first|exact⟨dw hr.out.symm,rfl⟩|exact⟨rfl,rfl⟩
end
section
open Go.Proofs
def WCmd.ns (c:WCmd):Array Value:=#[.int .i64 c.a,.int .i64 c.b,.int .i64 c.c,.int .i64 c.at_,.int .i64 c.len,.int .i64 c.min,.int .i64 c.max,.int .i64 c.usual,.int .i64 c.cool]
def WCmd.ok (c:WCmd):Bool:=dE c.op 0 255&&c.nums.all uJ
end
section
open Go.Proofs
def bn (s:ByteArray):List Int:=s.data.toList.map fun b=>(b.toNat:Int)
theorem gm (s:ByteArray):(bn s).length=s.size:=by unfold bn;rw[XF,ZH];rfl
theorem Fa (s:ByteArray):strOfNums (bn s)=s:=by
 unfold strOfNums bn;rw[Z8];have:(s.data.toList.map ((fun n:Int=>UInt8.ofNat n.toNat)∘fun b=>(b.toNat:Int)))=s.data.toList:=by
  rw[Y2 (g:=id)]
  ·simp
  ·intro b _;simp
 rw[this]
def qx (n:Int):Prop:=0≤n∧n≤255
theorem lE (s:ByteArray):∀n∈bn s,qx n:=by
 intro n hn;obtain⟨b,_,rfl⟩:=XH.1 hn;have:=b.toNat_lt;exact⟨by omega,by omega⟩
theorem qy (xs:List Int)(h:∀n∈xs,qx n):bn (strOfNums xs)=xs:=by
 unfold strOfNums bn;simp only[Z8];have:xs.map ((fun b:UInt8=>(b.toNat:Int))∘fun n=>UInt8.ofNat n.toNat)=xs:=by
  rw[Y2 (g:=id)]
  ·simp
  ·intro n hn;obtain⟨h0,h1⟩:=h n hn;simp;omega
 exact this
def qz (i:Nat):List Int→Int
 |[]=>0
 |x::xs=>((i:Int)+1)*x+qz (i+1) xs
def ow (l:List Int):Int:=qz 0 l
theorem t8 (x:Int):∀(l:List Int) (i:Nat),qz i (l++[x])=qz i l+((i+l.length:Nat)+1:Int)*x
 |[],i=>by simp[qz]
 |y::l,i=>by
  simp only[X6,qz,t8 x l (i+1),XD];rw[show i+1+l.length=i+(l.length+1) from by omega];omega
theorem zc (l:List Int)(x:Int):ow (l++[x])=ow l+((l.length:Int)+1)*x:=by
 unfold ow;rw[t8];simp
theorem GW (k:Nat)(x:Int)(hk:k≤1000)(h:qx x):0≤((k:Int)+1)*x∧((k:Int)+1)*x≤300000:=by
 obtain⟨h0,h1⟩:=h;refine⟨Int.mul_nonneg (by omega) h0,?_⟩;calc ((k:Int)+1)*x≤((k:Int)+1)*255:=Int.mul_le_mul_of_nonneg_left h1 (by omega)
  _≤300000:=by omega
theorem KW (l:List Int)(hb:∀n∈l,qx n):∀k,k≤l.length→k≤1000→0≤ow (l.take k)∧ow (l.take k)≤300000*k:=by
 intro k;induction k with
 |zero=>intro _ _;simp[ow,qz]
 |succ k ih=>
  intro h1 h2;have hlt:k < l.length:=by omega
  rw[Zq hlt,zc];have:=ih (by omega) (by omega);have hp:=GW k l[k] (by omega) (hb _ (Ym hlt));have hl:(l.take k).length=k:=by simp;omega
  rw[hl];push_cast
  omega
theorem vC (s:ByteArray)(k:Nat)(h:k < s.size):(bn s)[k]'(by rw[gm];exact h)=(s[k].toNat:Int):=by
 simp only[bn,Z4];rfl
theorem Pj (s:ByteArray)(w:World)(hs:s.size≤1000):
 Calls prog 54 #[.string s] w fun e w'=>e= .returned (.int .u32 (ow (bn s)))∧w=w':=by
 have VG:=lE s;have sx:=KW (bn s) VG;have BK:=gm s;replace VG:=Xk VG;replace sx:=Xk sx;replace BK:=Xk BK;go_enter func54,ntmps54
 go_wp2_with fail
 go_loop [3,7] (fun t i=>∃k:Nat,k≤s.size∧i= .int .i64 k∧t= .int .u32 (ow ((bn s).take k))) (fun _ i=>s.size - (intOf i).toNat)
 case atStart=>exact⟨0,XL _,rfl,rfl⟩
 case round=>
  obtain⟨k,hk,rfl,rfl⟩:=hrel;by_cases hlt:k < s.size
  ·have Gz:=vC s k hlt;have Sj:ow ((bn s).take (k+1))=ow ((bn s).take k)+((k:Int)+1)*(s[k].toNat:Int):=by
    rw[Zq (by rw[BK.out];exact hlt),zc,Gz];congr 2;simp;rw[BK.out];omega
   obtain⟨p1,p2⟩:=GW k (s[k].toNat:Int) (by omega) ⟨by omega,by have:=s[k].toNat_lt;omega⟩;obtain⟨q1,q2⟩:=sx.out k (by rw[BK.out];omega) (by omega);obtain⟨q,hq⟩:∃q,q=ow ((bn s).take k):=⟨_,rfl⟩;rw[←hq]at q1 q2 Sj;replace Sj:=Xk Sj;replace hq:=Xk hq;clear Gz;rw[←hq.out];go_wp2_with fail
   go_round
   case rel=>exact⟨k+1,by omega,by go_num,by
    rw[Sj.out];have hx:=s[k].toNat_lt;have e:((s[k].toNat:Int) % 4294967296)=(s[k].toNat:Int):=by omega
    rw[e];congr 1;omega⟩
   case measure=>simp[intOf];omega
  ·obtain rfl:k=s.size:=by omega
   go_wp2_with fail
   go_ret
   exact⟨bM (by rw[XI (by rw[BK.out];omega)]),rfl⟩
def Pk (n:Int):List Int:=[n % 256,n / 256 % 256,n / 65536 % 256,n / 16777216 % 256]
def Fb (s:ByteArray):List Int:=(s.size:Int)::bn s
def iQ (s:ByteArray):ByteArray:=strOfNums (Fb s++Pk (ow (Fb s)))
theorem Ca (s:ByteArray)(h:s.size≤255):∀n∈Fb s,qx n:=by
 intro n hn;rcases XY.1 hn with rfl|hn
 ·exact⟨by omega,by omega⟩
 ·exact lE s n hn
theorem vD (xs ys:List Int):strOfNums (xs++ys)=strOfNums xs++strOfNums ys:=by
 apply ZL;rw[ZQ];simp[strOfNums]
theorem Cb (a b:ByteArray):bn (a++b)=bn a++bn b:=by
 unfold bn;rw[ZQ];simp
theorem KX (n:Nat)(h:n≤255):bn (strOfNums [(n:Int)])=[(n:Int)]:=qy _ (by intro m hm;rw[X7.1 hm];exact⟨by omega,by omega⟩)
theorem KY (s:ByteArray)(h:s.size≤255):bn (strOfNums [(s.size:Int)]++s)=Fb s:=by
 rw[Cb,KX _ h];rfl
theorem zd (s:ByteArray)(h:s.size≤255):strOfNums [(s.size:Int)]++s++strOfNums (Pk (ow (Fb s)))=iQ s:=by
 unfold iQ Fb;rw[vD,show ((s.size:Int)::bn s)=[(s.size:Int)]++bn s from rfl,vD,Fa]
theorem SK (s:ByteArray)(h:s.size≤255):0≤ow (Fb s)∧ow (Fb s)≤100000000:=by
 have hl:(Fb s).length=s.size+1:=by simp[Fb,gm]
 have:=KW (Fb s) (Ca s h) (Fb s).length (XC _) (by omega);rw[Xq]at this;rw[hl]at this;push_cast at this
 omega
theorem sP (s:ByteArray)(w:World)(hs:s.size≤255):
 Calls prog 25 #[.string s] w fun e w'=>e= .returned (.tuple #[.string (iQ s),.int .i64 0])∧cW w w':=by
 have Av:=run_convert_bytes_arg (P:=prog) (w.alloc (.cells #[.int .u8 (s.size:Int)] 5)) 74 5 underlying74 underlying5 w.heap.size 0 1 1 [(s.size:Int)] rfl (fun i hi=>by
  obtain rfl:i=0:=by omega
  exact aG (b8 _ _) rfl) 9 underlying9
 have hf:=KY s hs;have Ky:=zd s hs;obtain⟨q1,q2⟩:=SK s hs;obtain⟨x,hx⟩:∃x,x=strOfNums [(s.size:Int)]:=⟨_,rfl⟩;have Kz:x.size≤1:=by rw[hx,strOfNums_size];simp
 rw[←hx]at Av hf Ky;obtain⟨y,hy⟩:∃y,y=x++s:=⟨_,rfl⟩;have EM:y.size≤1000:=by rw[hy,Zb];omega
 rw[←hy]at hf Ky;obtain⟨q,hq⟩:∃q,q=ow (Fb s):=⟨_,rfl⟩;rw[←hq]at Ky q1 q2;have T3:=Pj y (w.alloc (.cells #[.int .u8 (s.size:Int)] 5)) EM;rw[hf,←hq]at T3;have Oo:=run_convert_bytes_arg (P:=prog) ((w.alloc (.cells #[.int .u8 (s.size:Int)] 5)).alloc (.cells #[.int .u8 (q % 256),.int .u8 (q / 256 % 256),.int .u8 (q / 65536 % 256),.int .u8 (q / 16777216)] 5)) 74 5 underlying74 underlying5 (w.heap.size+1) 0 4 4 [q % 256,q / 256 % 256,q / 65536 % 256,q / 16777216] rfl (fun i hi=>by
  have hb:=b8 (w.alloc (.cells #[.int .u8 (s.size:Int)] 5)) (.cells #[.int .u8 (q % 256),.int .u8 (q / 256 % 256),.int .u8 (q / 65536 % 256),.int .u8 (q / 16777216)] 5);rw[Xr]at hb;match i,hi with
  |0,_|1,_|2,_|3,_=>exact aG hb rfl) 9 underlying9
 have VH:[q % 256,q / 256 % 256,q / 65536 % 256,q / 16777216]=Pk q:=by
  unfold Pk;rw[show q / 16777216 % 256=q / 16777216 from by omega]
 rw[VH]at Oo;clear VH;obtain⟨z,hz⟩:∃z,z=strOfNums (Pk q):=⟨_,rfl⟩;have KA:z.size≤4:=by rw[hz,strOfNums_size];simp[Pk]
 rw[←hz]at Oo Ky;have Oq:∀W:World,(Op.stringOp .add x s).run prog W= .ok (.string y) W:=fun W=>by rw[hy];exact run_string_add_sum W x s (by omega)
 have a0T:∀W:World,(Op.stringOp .add y z).run prog W= .ok (.string (iQ s)) W:=fun W=>by rw[←Ky];exact run_string_add_sum W y z (by omega)
 replace hx:=Xk hx;replace hy:=Xk hy;replace hq:=Xk hq;replace hz:=Xk hz;replace hf:=Xk hf;replace Ky:=Xk Ky;go_enter func25,ntmps25
 go_wp2_with fail
 refine T3.mono ?_;rintro e w1 ⟨rfl,rfl⟩;clear T3 Av;go_wp2_with fail
 go_ret2
 refine⟨rfl,Bel.bel (B:=_) ?_⟩;(repeat(first|with_reducible assumption|with_reducible exact Bel.refl _|with_reducible refine Bel.alloc ?_ _|with_reducible refine Bel.drewN ?_ _|with_reducible refine Bel.drew ?_|(with_reducible refine ak ?_ ?_ _;rotate_left;(first|omega|(simp;done)|(simp;omega)))|(with_reducible refine Bel.setCell ?_ (p:=_) ?_ _;rotate_left;(first|(simp;done)|omega|(simp;omega)))|refine Bel.call ?_ (by assumption)|(refine EX.bel ?_ (by assumption) ?_;rotate_left;(first|omega|(simp;omega)))))
end
section
open Go.Proofs
def t9 (l:List Int)(i:Nat):Int:=l.getD i 0
def be (l:List Int)(j:Nat):Int:=256*(256*(256*(256*0+t9 l (4*j+1))+t9 l (4*j+2))+t9 l (4*j+3))+t9 l (4*j+4)
def UK (n:Int):Int:=if 2147483648≤n then n - 4294967296 else n
def kC (l:List Int)(j:Nat):Int:=UK (be l j)
def vE (l:List Int):WCmd:=⟨t9 l 0,kC l 0,kC l 1,kC l 2,kC l 3,kC l 4,kC l 5,kC l 6,kC l 7,kC l 8⟩
theorem KZ {l:List Int}(h:∀n∈l,qx n)(i:Nat):0≤t9 l i∧t9 l i≤255:=by
 unfold t9;rcases XO i l.length with hi|hi
 ·simp only[XE,Xj hi,Yy];exact h _ (Ym hi)
 ·simp[XN hi]
theorem rl (s:ByteArray)(i:Nat)(h:i < s.size):t9 (bn s) i=(s[i].toNat:Int):=by
 unfold t9;rw[XE,Xj (by rw[gm];exact h),Yy,vC s i h]
def rm:Array Value:=#[.int .i64 0,.int .i64 0,.int .i64 0,.int .i64 0,.int .i64 0,.int .i64 0,.int .i64 0,.int .i64 0,.int .i64 0,.int .i64 0]
end
section
open Go.Proofs
theorem Fc {P:Program}(w:World)(src dst e:TypeId)(s:ByteArray)(hs:P.underlying src=some .string)(hd:P.underlying dst=some (.slice e))(he:P.underlying e=some (.int .u8)):
 ∃W2 cap,(convert src dst (.string s)).run P w= .ok (.slice (some ⟨w.heap.size,0,none⟩) s.size cap) W2∧s.size≤cap∧(∀t,t < s.size→W2.cell? ⟨w.heap.size,t,none⟩=some (.int .u8 (t9 (bn s) t)))∧cW w W2:=by
 refine⟨_,_,run_bytes_of_string w src dst e s hs hd he,grownCap_ge _ _ _ _,fun t ht=>?_,?_⟩
 ·have hb:=bytesRow_at s (grownCap w s.size 0 e) t ht;rw[rl s t ht];exact aG (b8 w.drew _) hb
 ·exact((Bel.refl w).drew.alloc _).bel
theorem rn (s:ByteArray)(a n t:Nat)(h:a+n≤s.size)(ht:t < n):t9 (bn (s.extract a (a+n))) t=t9 (bn s) (a+t):=by
 have cM:(s.extract a (a+n)).size=n:=by rw[Y7];omega
 rw[rl _ t (by omega),rl _ (a+t) (by omega)];congr 2;exact ByteArray.getElem_extract ..
theorem AE (n b:Int)(h0:0≤n)(h1:n < 16777216)(h2:0≤b)(h3:b≤255):bits .or .u32 (n*256) b=256*n+b:=by
 obtain⟨n,rfl⟩:=ZE h0;obtain⟨b,rfl⟩:=ZE h2;have e:((n:Int)*256)=((n*256:Nat):Int):=by simp
 rw[e];have hw:∀x:Nat,x < 4294967296→(BitVec.ofInt 32 (x:Int)).toNat=x:=fun x hx=>by
  rw[BitVec.ofInt_natCast,BitVec.toNat_ofNat];exact Nat.mod_eq_of_lt (by omega)
 have ho:n*256|||b=n*256+b:=by
  have:=Nat.shiftLeft_add_eq_or_of_lt (b:=b) (i:=8) (by omega) n;rw[Nat.shiftLeft_eq,show (2:Nat) ^ 8=256 from rfl]at this;omega
 show IntKind.u32.wrap ((BitVec.ofInt 32 _|||BitVec.ofInt 32 _).toNat:Int)=_;rw[BitVec.toNat_or,hw _ (by omega),hw _ (by omega),ho];have hsg:IntKind.u32.signed=false:=rfl;simp[IntKind.wrap,IntKind.bits,hsg];omega
def ox (x:Int)(f:Nat→Int)(j:Nat):Array Value:=#[.int .i64 x,.int .i64 (if 0 < j then f 0 else 0),.int .i64 (if 1 < j then f 1 else 0),.int .i64 (if 2 < j then f 2 else 0),.int .i64 (if 3 < j then f 3 else 0),.int .i64 (if 4 < j then f 4 else 0),.int .i64 (if 5 < j then f 5 else 0),.int .i64 (if 6 < j then f 6 else 0),.int .i64 (if 7 < j then f 7 else 0),.int .i64 (if 8 < j then f 8 else 0)]
theorem zf (x:Int)(f:Nat→Int)(j:Nat)(h:j < 9):(ox x f j).setIfInBounds (j+1) (.int .i64 (f j))=ox x f (j+1):=by
 match j,h with
 |0,_|1,_|2,_|3,_|4,_|5,_|6,_|7,_|8,_=>simp[ox]
theorem K4 (x:Int)(f:Nat→Int)(j i:Nat)(h:i < 10):∃v,(ox x f j)[i]? =some v:=⟨(ox x f j)[i]'(by simp[ox];omega),by simp[ox]⟩
theorem Ij (l:List Int):ox (t9 l 0) (kC l) 9=(vE l).cs:=by simp[ox,vE,WCmd.cs]
def Ik (l:List Int)(w:World)(j:Nat)(wr:World):Prop:=
 wr.heap[w.heap.size]? =some (.cells rm 27 (0,0))∧wr.heap[w.heap.size+1]? =some (.cells (ox (t9 l 0) (kC l) j) 27 (0,0))∧
  wr.heap[w.heap.size+2]? =some (.cells (AD (w.heap.size+1)) 124 (0,0))∧Bel w.heap.size w wr
theorem K5 {l:List Int}{w:World}{j:Nat}{wr W2:World}(h:Ik l w j wr)(hx:cW wr W2):Ik l w j W2:=by
 obtain⟨h0,h1,h2,h3⟩:=h;have hk:∀{b:Nat}{o:Obj},wr.heap[b]? =some o→W2.heap[b]? =some o:=fun {b o} hb=>by
  have hlt:b < wr.heap.size:=by
   rcases XO b wr.heap.size with h|h
   ·exact h
   ·simp[Yj h]at hb
  rw[hx.block b hlt,hb]
 exact⟨hk h0,hk h1,hk h2,h3.call hx⟩
theorem K6 (s:ByteArray)(w:World)(hs:s.size=37):
 Calls prog 44 #[.string s] w fun e w'=>e= .returned (.tuple #[.agg (vE (bn s)).cs,.int .i64 0])∧cW w w':=by
 have cM:((s.size:Int) !=37)=false:=by rw[hs];rfl
 have hge:37≤s.size:=by omega
 have a0U:s.size≤37:=by omega
 clear hs;have Kd:=KZ (lE s);have e0:=rl s 0 (by omega);obtain⟨x0,W7⟩:∃x,x=t9 (bn s) 0:=⟨_,rfl⟩;obtain⟨a1,a2⟩:=Kd 0;rw[←W7]at e0 a1 a2;replace e0:=e0.symm;replace W7:=Xk W7;replace Kd:=Xk Kd;have fk:Ik (bn s) w 0 ((((w.alloc (.cells rm 27)).alloc (.cells #[.int .i64 x0,.int .i64 0,.int .i64 0,.int .i64 0,.int .i64 0,.int .i64 0,.int .i64 0,.int .i64 0,.int .i64 0,.int .i64 0] 27)).alloc (.cells (AD (w.heap.size+1)) 124)).drew):=by
  refine⟨iO.trans (bQ (bQ (b8 _ _))),iO.trans (bQ ?_),iO.trans ?_,((((Bel.refl w).alloc _).alloc _).alloc _).drew⟩
  ·have:=b8 (w.alloc (.cells rm 27)) (.cells #[.int .i64 x0,.int .i64 0,.int .i64 0,.int .i64 0,.int .i64 0,.int .i64 0,.int .i64 0,.int .i64 0,.int .i64 0,.int .i64 0] 27);rw[←W7.out];simpa[ox]using this
  ·have:=b8 ((w.alloc (.cells rm 27)).alloc (.cells #[.int .i64 x0,.int .i64 0,.int .i64 0,.int .i64 0,.int .i64 0,.int .i64 0,.int .i64 0,.int .i64 0,.int .i64 0,.int .i64 0] 27)) (.cells (AD (w.heap.size+1)) 124);simpa using this
 unfold rm AD at fk;replace fk:=Xk fk;go_enter func44,ntmps44
 go_wp2_with fail
 refine(qw _ _ (.int .i64 0) (by go_simp)).mono ?_;rintro e w1 ⟨rfl,rfl⟩;go_wp2_with fail
 go_loopw [26] (fun i wr=>∃j:Nat,j≤9∧i= .int .i64 j∧Ik (bn s) w j wr) (fun i _=>9 - (intOf i).toNat)
 case atStart=>exact⟨0,by omega,rfl,fk.out⟩
 case round=>
  obtain⟨j,hj,rfl,hrel⟩:=hrel;clear fk;by_cases hlt:j < 9
  ·have ec:(j:Int) < 9:=by omega
   have hp:=aG hrel.2.2.1 (KR (w.heap.size+1) j hlt);have hsx:(s.extract (1+4*j) (5+4*j)).size=4:=by rw[Y7];omega
   obtain⟨W2,cap,hk,tU,bY,pV⟩:=Fc (P:=prog) wr 9 74 5 (s.extract (1+4*j) (5+4*j)) underlying9 underlying74 underlying5;rw[hsx]at hk tU bY;have cJ:=K5 hrel pV;have E8:∀t,t < 4→t9 (bn (s.extract (1+4*j) (5+4*j))) t=t9 (bn s) (4*j+1+t):=fun t ht=>by
    rw[show 5+4*j=(1+4*j)+4 from by omega,rn s (1+4*j) 4 t (by omega) ht,show 1+4*j+t=4*j+1+t from by omega]
   have q1:=bY 0 (by omega);have q2:=bY 1 (by omega);have q3:=bY 2 (by omega);have q4:=bY 3 (by omega);rw[E8 0 (by omega)]at q1;rw[E8 1 (by omega)]at q2;rw[E8 2 (by omega)]at q3;rw[E8 3 (by omega)]at q4;obtain⟨f1,f2⟩:=Kd.out (4*j+1);obtain⟨b1,b2⟩:=Kd.out (4*j+2);obtain⟨c1,c2⟩:=Kd.out (4*j+3);obtain⟨d1,d2⟩:=Kd.out (4*j+4);obtain⟨x1,oh⟩:∃x,x=t9 (bn s) (4*j+1):=⟨_,rfl⟩;obtain⟨x2,pW⟩:∃x,x=t9 (bn s) (4*j+2):=⟨_,rfl⟩;obtain⟨x3,KB⟩:∃x,x=t9 (bn s) (4*j+3):=⟨_,rfl⟩;obtain⟨x4,UR⟩:∃x,x=t9 (bn s) (4*j+4):=⟨_,rfl⟩;have RF:kC (bn s) j=UK (256*(256*(256*(256*0+x1)+x2)+x3)+x4):=by rw[oh,pW,KB,UR];rfl
   rw[show 4*j+1+0=4*j+1 from rfl,←oh]at q1;rw[show 4*j+1+1=4*j+2 from rfl,←pW]at q2;rw[show 4*j+1+2=4*j+3 from rfl,←KB]at q3;rw[show 4*j+1+3=4*j+4 from rfl,←UR]at q4;rw[←oh]at f1 f2;rw[←pW]at b1 b2;rw[←KB]at c1 c2;rw[←UR]at d1 d2;clear oh pW KB UR bY E8;have hle:=hrel.2.2.2.le;have VI:=pV.size;replace hrel:=Xk hrel;replace cJ:=Xk cJ;replace RF:=Xk RF;replace hsx:=Xk hsx;clear pV tU;go_wp2_with fail
   go_loop [8,41] (fun n k=>(n= .int .u32 0∧k= .int .i64 0)∨(n= .int .u32 x1∧k= .int .i64 1)∨(n= .int .u32 (256*x1+x2)∧k= .int .i64 2)∨(n= .int .u32 (256*(256*x1+x2)+x3)∧k= .int .i64 3)∨(n= .int .u32 (256*(256*(256*x1+x2)+x3)+x4)∧k= .int .i64 4)) (fun _ k=>4 - (intOf k).toNat)
   case atStart=>exact .inl ⟨rfl,rfl⟩
   case round=>
    rcases hrel with⟨rfl,rfl⟩|⟨rfl,rfl⟩|⟨rfl,rfl⟩|⟨rfl,rfl⟩|⟨rfl,rfl⟩
    ·go_wp2_with fail
     exact⟨.inr (.inl ⟨by have h:=AE 0 x1 (by omega) (by omega) (by omega) (by omega);simp at h;rw[h],rfl⟩),by simp[intOf]⟩
    ·go_wp2_with fail
     exact⟨.inr (.inr (.inl ⟨by rw[AE x1 x2 (by omega) (by omega) (by omega) (by omega)],rfl⟩)),by simp[intOf]⟩
    ·go_wp2_with fail
     exact⟨.inr (.inr (.inr (.inl ⟨by rw[AE _ x3 (by omega) (by omega) (by omega) (by omega)],rfl⟩))),by simp[intOf]⟩
    ·go_wp2_with fail
     exact⟨.inr (.inr (.inr (.inr ⟨by rw[AE _ x4 (by omega) (by omega) (by omega) (by omega)],rfl⟩))),by simp[intOf]⟩
    ·obtain⟨old,hold⟩:=K4 (t9 (bn s) 0) (kC (bn s)) j (j+1) (by omega);have hc:=aG cJ.out.2.1 hold;have hf:=gj (o:=j+1) cJ.out.2.1;clear hold;by_cases BL:2147483648≤256*(256*(256*x1+x2)+x3)+x4
     ·have Ot:=BL;have hv:kC (bn s) j=256*(256*(256*x1+x2)+x3)+x4 - 4294967296:=by
       rw[RF.out];unfold UK;rw[if_pos (by omega)];omega
      have pP:wrap32 (256*(256*(256*x1+x2)+x3)+x4)=256*(256*(256*x1+x2)+x3)+x4 - 4294967296:=by unfold wrap32;omega
      replace hv:=Xk hv;go_wp2_with fail
      have R:Ik (bn s) w (j+1) (W2.setCell ⟨w.heap.size+1,j+1,none⟩ (.int .i64 (256*(256*(256*x1+x2)+x3)+x4 - 4294967296))):=by
       rw[←hv.out];obtain⟨g0,g1,g2,g3⟩:=cJ.out;refine⟨(dU _ (by simp)).trans g0,?_,(dU _ (by simp)).trans g2,g3.setCell (by simp) _⟩;rw[lY g1,zf _ _ _ hlt]
      go_roundw
      case rel=>exact⟨j+1,by omega,by go_num,R⟩
      case measure=>simp[intOf];omega
     ·have Ot:=BL;have hv:kC (bn s) j=256*(256*(256*x1+x2)+x3)+x4:=by
       rw[RF.out];unfold UK;rw[if_neg (by omega)];omega
      have pP:wrap32 (256*(256*(256*x1+x2)+x3)+x4)=256*(256*(256*x1+x2)+x3)+x4:=by unfold wrap32;omega
      replace hv:=Xk hv;go_wp2_with fail
      have R:Ik (bn s) w (j+1) (W2.setCell ⟨w.heap.size+1,j+1,none⟩ (.int .i64 (256*(256*(256*x1+x2)+x3)+x4))):=by
       rw[←hv.out];obtain⟨g0,g1,g2,g3⟩:=cJ.out;refine⟨(dU _ (by simp)).trans g0,?_,(dU _ (by simp)).trans g2,g3.setCell (by simp) _⟩;rw[lY g1,zf _ _ _ hlt]
      go_roundw
      case rel=>exact⟨j+1,by omega,by go_num,R⟩
      case measure=>simp[intOf];omega
  ·obtain rfl:j=9:=by omega
   obtain⟨RE,H3,-,jO⟩:=hrel;rw[Ij]at H3;have hle:=jO.le;have hz:∀k,k < 10→wr.cell? ⟨w.heap.size,k,none⟩=some (.int .i64 0):=fun k hk=>aG RE (by
    match k,hk with
    |0,_|1,_|2,_|3,_|4,_|5,_|6,_|7,_|8,_|9,_=>rfl)
   have hf:∀k,wr.frozen? ⟨w.heap.size,k,none⟩=false:=fun k=>gj RE;obtain⟨c,hc⟩:∃c,c=vE (bn s):=⟨_,rfl⟩;rw[←hc]at H3;have k0:wr.cell? ⟨w.heap.size+1,0,none⟩=some (.int .i64 c.op):=aG H3 rfl;have k1:wr.cell? ⟨w.heap.size+1,1,none⟩=some (.int .i64 c.a):=aG H3 rfl;have k2:wr.cell? ⟨w.heap.size+1,2,none⟩=some (.int .i64 c.b):=aG H3 rfl;have k3:wr.cell? ⟨w.heap.size+1,3,none⟩=some (.int .i64 c.c):=aG H3 rfl;have k4:wr.cell? ⟨w.heap.size+1,4,none⟩=some (.int .i64 c.at_):=aG H3 rfl;have k5:wr.cell? ⟨w.heap.size+1,5,none⟩=some (.int .i64 c.len):=aG H3 rfl;have k6:wr.cell? ⟨w.heap.size+1,6,none⟩=some (.int .i64 c.min):=aG H3 rfl;have k7:wr.cell? ⟨w.heap.size+1,7,none⟩=some (.int .i64 c.max):=aG H3 rfl;have k8:wr.cell? ⟨w.heap.size+1,8,none⟩=some (.int .i64 c.usual):=aG H3 rfl;have k9:wr.cell? ⟨w.heap.size+1,9,none⟩=some (.int .i64 c.cool):=aG H3 rfl;have z0:=hz 0 (by omega);have z1:=hz 1 (by omega);have z2:=hz 2 (by omega);have z3:=hz 3 (by omega);have z4:=hz 4 (by omega);have z5:=hz 5 (by omega);have z6:=hz 6 (by omega);have z7:=hz 7 (by omega);have z8:=hz 8 (by omega);have z9:=hz 9 (by omega);have Ke:w.heap.size < wr.heap.size:=dn z0;replace hz:=Xk hz;replace RE:=Xk RE;replace H3:=Xk H3;replace hc:=Xk hc;clear hlt;go_wp2_with fail
   refine bodyPost_ret (v:= .tuple #[.agg c.cs,.int .i64 0]) ?_ rfl ⟨by rw[hc.out],Bel.bel (B:=_) ?_⟩
   ·unfold WCmd.cs;simp[results,results44,go_sem,z0,z1,z2,z3,z4,z5,z6,z7,z8,z9]
   ·(repeat(first|with_reducible assumption|with_reducible exact Bel.refl _|with_reducible refine Bel.alloc ?_ _|with_reducible refine Bel.drewN ?_ _|with_reducible refine Bel.drew ?_|(with_reducible refine ak ?_ ?_ _;rotate_left;(first|omega|(simp;done)|(simp;omega)))|(with_reducible refine Bel.setCell ?_ (p:=_) ?_ _;rotate_left;(first|(simp;done)|omega|(simp;omega)))|refine Bel.call ?_ (by assumption)|(refine EX.bel ?_ (by assumption) ?_;rotate_left;(first|omega|(simp;omega)))))
end
section
open Go.Proofs
def qA (c:WCmd):ByteArray:=strOfNums (c.op::c.nums.flatMap GV)
def sQ (c:WCmd):Value:=if c.ok then .tuple #[.string (qA c),.int .i64 0]else .tuple #[.string ⟨#[]⟩,.int .i64 3]
theorem Il (c:WCmd)(w:World):
 Calls prog 23 #[.agg c.cs] w fun e w'=>e= .returned (sQ c)∧cW w w':=by
 by_cases h:0≤c.op∧c.op≤255
 ·have hv:sQ c=kB c:=by
   have:dE c.op 0 255=true:=by simp[dE,h]
   simp[sQ,kB,WCmd.ok,this,qA]
  rw[hv];exact KV c w h.1 h.2
 ·have hv:sQ c= .tuple #[.string ⟨#[]⟩,.int .i64 3]:=by
   have:dE c.op 0 255=false:=by simp[dE];omega
   simp[sQ,WCmd.ok,this]
  rw[hv];clear hv;by_cases h0:c.op < 0
  ·unfold WCmd.cs;clear h;go_enter func23,ntmps23
   go_wp2_with fail
   go_ret2
   exact⟨rfl,((Bel.refl w).alloc _).bel⟩
  ·have h1:255 < c.op:=by omega
   unfold WCmd.cs;clear h;go_enter func23,ntmps23
   go_wp2_with fail
   go_ret2
   exact⟨rfl,((Bel.refl w).alloc _).bel⟩
theorem pq (c:WCmd):(qA c).size=37:=by
 unfold qA;rw[strOfNums_size];simp[WCmd.nums,GV]
def m8 (c:WCmd):ByteArray:=iQ (qA c)
theorem oy (c:WCmd):(m8 c).size=42:=by
 unfold m8 iQ;rw[strOfNums_size];simp[Fb,gm,pq,Pk]
def me (l:List WCmd):List UInt8:=l.flatMap fun c=>(m8 c).data.toList
def kD (l:List WCmd):ByteArray:=⟨(me l).toArray⟩
theorem uK (l:List WCmd):(me l).length=42*l.length:=by
 induction l with
 |nil=>rfl
 |cons c l ih=>
  have:(m8 c).data.toList.length=42:=by rw[ZH];exact oy c
  simp only[me,ZF,Xt,XD,this]at ih ⊢;omega
def WCmd.R (cs:List Value)(c:WCmd):Prop:=cs=c.cs.toList
end
section
open Go.Proofs
theorem mf (l:List WCmd):(kD l).size=42*l.length:=by
 have:=uK l;show (me l).toArray.size=_;simpa using this
theorem SL {c:WCmd}(h:c.ok=true):0≤c.op∧c.op≤255∧∀n∈c.nums,uJ n=true:=by
 unfold WCmd.ok at h;rw[Xy]at h;obtain⟨h1,h2⟩:=h;unfold dE at h1;rw[Xy]at h1;exact⟨by simpa using h1.1,by simpa using h1.2,XB.1 h2⟩
end
section
open Go.Proofs
def K7:WCmd:=⟨0,0,0,0,0,0,0,0,0,0⟩
def vF (s:ByteArray):WCmd:=if s.size=37 then vE (bn s)else K7
def zg (s:ByteArray):Value:= .tuple #[.agg (vF s).cs,.int .i64 (if s.size=37 then 0 else 1)]
theorem Cc (s:ByteArray)(w:World):
 Calls prog 44 #[.string s] w fun e w'=>e= .returned (zg s)∧cW w w':=by
 by_cases h:s.size=37
 ·have:=K6 s w h;simpa[zg,vF,h]using this
 ·have hv:zg s= .tuple #[.agg K7.cs,.int .i64 1]:=by simp[zg,vF,h]
  rw[hv];have cM:((s.size:Int) !=37)=true:=by simp;omega
  clear hv h;unfold K7 WCmd.cs;go_enter func44,ntmps44
  go_wp2_with fail
  refine(qw _ _ (.int .i64 0) (by go_simp)).mono ?_;rintro e w1 ⟨rfl,rfl⟩;go_wp2_with fail
  refine bodyPost_ret (v:= .tuple #[.agg #[.int .i64 0,.int .i64 0,.int .i64 0,.int .i64 0,.int .i64 0,.int .i64 0,.int .i64 0,.int .i64 0,.int .i64 0,.int .i64 0],.int .i64 1]) ?_ rfl ⟨rfl,Bel.bel (B:=_) ?_⟩
  ·simp[results,results44,go_sem,World.cell?_alloc_some,World.cell?_setCell_same]
  ·(repeat(first|with_reducible assumption|with_reducible exact Bel.refl _|with_reducible refine Bel.alloc ?_ _|with_reducible refine Bel.drewN ?_ _|with_reducible refine Bel.drew ?_|(with_reducible refine ak ?_ ?_ _;rotate_left;(first|omega|(simp;done)|(simp;omega)))|(with_reducible refine Bel.setCell ?_ (p:=_) ?_ _;rotate_left;(first|(simp;done)|omega|(simp;omega)))|refine Bel.call ?_ (by assumption)|(refine EX.bel ?_ (by assumption) ?_;rotate_left;(first|omega|(simp;omega)))))
end
section
open Go.Proofs
theorem vG {α:Type}{f:α→List Value}{k:Nat}:∀(l:List α),(∀x∈l,(f x).length=k)→∀i (h:i < l.length) j,j < k→(l.flatMap f)[i*k+j]? =(f l[i])[j]?
 |[],_,i,h,_,_=>absurd h (by simp)
 |x::l,hf,i,h,j,hj=>by
  have hx:=hf x (by simp);rw[ZF];match i with
  |0=>rw[X5 (by omega)];simp
  |i+1=>
   have e:(i+1)*k+j - k=i*k+j:=by rw[YI];omega
   rw[XP (by rw[hx,YI];omega),hx,e,vG l (fun y hy=>hf y (by simp[hy])) i (by simpa using h) j hj];simp
theorem K8 {α:Type}{A:md}{w:World}{base k:Nat}{e:TypeId}{v:Value}{l:List α}{f:α→List Value}{n:Nat}(h:w.ownsRow base e k v n (l.flatMap f))(hn:n=l.length)(hf:∀x∈l,(f x).length=k)
 (hA:∀b,base≤b→A b):∃ao cap,v= .slice ao n cap∧Sl A w k (fun cs x=>cs=f x) ao cap l:=by
 subst hn;rcases h.2 with⟨hv,h0⟩|⟨g,cap,cur,hv,hg,hb,hc,hm,cM,ht⟩
 ·refine⟨none,0,by rw[hv,h0],⟨by omega,by decide,fun i hi=>absurd hi (by omega)⟩⟩
 ·subst hv;refine⟨_,cap,rfl,⟨hc,hm,fun i hi=>⟨g,0,f l[i],rfl,hA g hg,hf _ (Ym hi),rfl,fun j hj=>?_⟩⟩⟩;have hj':j < k:=by rw[hf _ (Ym hi)]at hj;exact hj
  have hlt:i*k+j < l.length*k:=by
   have:(i+1)*k≤l.length*k:=Yo k hi;rw[YI]at this;omega
  rw[show 0+i*k+j=i*k+j from by omega,h.cellAt _ hlt,vG l hf i hi j hj',Xj hj]
end
section
open Go.Proofs
def Fd (s:ByteArray)(i:Nat):Prop:=i+42≤s.size∧iQ (s.extract (i+1) (i+38))=s.extract i (i+42)
theorem Cd (t:ByteArray)(h:t.size≤255):t9 (bn (iQ t)) 0=t.size:=by
 unfold iQ;rw[qy]
 ·rfl
 ·intro n hn;rcases X4.1 hn with hn|hn
  ·exact Ca t h n hn
  ·simp[Pk]at hn;rcases hn with rfl|rfl|rfl|rfl<;>exact⟨by omega,by omega⟩
theorem zh {s:ByteArray}{i:Nat}(h:Fd s i):t9 (bn s) i=37:=by
 have h1:=rn s i 42 0 h.1 (by omega);rw[←h.2,Cd _ (by rw[Y7];omega),Y7,Nat.min_eq_left (by have:=h.1;omega)]at h1;rw[show i+0=i from rfl]at h1;rw[←h1];omega
structure Replayed (s:ByteArray)(n:Nat):Prop where
 le:n≤200
 all:∀k,k < n→Fd s (42*k)
 stop:n=200∨¬Fd s (42*n)
theorem Replayed.unique {s:ByteArray}{n m:Nat}(h:Replayed s n)(k:Replayed s m):n=m:=by
 rcases Y4 n m with hlt|heq|hlt
 ·rcases h.stop with h1|h1
  ·have:=k.le;omega
  ·exact absurd (k.all n hlt) h1
 ·exact heq
 ·rcases k.stop with h1|h1
  ·have:=h.le;omega
  ·exact absurd (h.all m hlt) h1
def K9 (s:ByteArray)(k:Nat):WCmd:=vE (bn (s.extract (42*k+1) (42*k+38)))
def kE (s:ByteArray)(n:Nat):List WCmd:=(X3 n).map (K9 s)
theorem fe (s:ByteArray)(n:Nat):(kE s n).length=n:=by simp[kE]
theorem Ce (s:ByteArray)(n:Nat):kE s (n+1)=kE s n++[K9 s n]:=by simp[kE,P']
end
section
open Go.Proofs
theorem Fe {a b:ByteArray}:a.toList=b.toList↔a=b:=by
 refine⟨fun h=>?_,fun h=>by rw[h]⟩;rw[J',J']at h;exact ZL (Z9 h)
theorem Im {a b:ByteArray}(h:¬a=b):(a.toList==b.toList)=false:=by
 rw[beq_eq_false_iff_ne];exact fun hx=>h (Fe.1 hx)
theorem BI:(prog.info? 27).map (fun i=>(i.zero,i.size,i.bytes))=some (some (.agg #[.int .i64 0,.int .i64 0,.int .i64 0,.int .i64 0,.int .i64 0,.int .i64 0,.int .i64 0,.int .i64 0,.int .i64 0,.int .i64 0]),10,80):=by kernel_rfl
def Pm (s:ByteArray)(w:World)(n:Nat)(v:Value)(wr:World):Prop:=
 wr.ownsRow w.heap.size 27 10 v n ((kE s n).flatMap fun c=>c.cs.toList)∧n≤200∧42*n≤s.size∧(∀k,k < n→Fd s (42*k))∧Bel w.heap.size w wr
def AF (s:ByteArray)(w:World)(e:Ending)(w':World):Prop:=
 ∃n ao cap,Replayed s n∧e= .returned (.tuple #[.slice ao n cap,.int .i64 (42*(n:Int)),.int .i64 0])∧Sl (fun b=>w.heap.size≤b) w' 10 WCmd.R ao cap (kE s n)∧cW w w'
theorem oz {s:ByteArray}{w wr:World}{n:Nat}{v:Value}(h:Pm s w n v wr)(hs:n=200∨¬Fd s (42*n)):AF s w (.returned (.tuple #[v,.int .i64 (42*(n:Int)),.int .i64 0])) wr:=by
 obtain⟨h1,h2,h3,h4,h5⟩:=h;obtain⟨ao,cap,hv,BM⟩:=K8 (A:=fun b=>w.heap.size≤b) h1 (fe s n).symm (fun _ _=>rfl) (fun _ hb=>hb);exact⟨n,ao,cap,⟨h2,h4,hs⟩,by rw[hv],BM,h5.bel⟩
theorem Ff (s:ByteArray)(w:World)(hs:s.size≤16384):
 Calls prog 18 #[.string s] w (AF s w):=by
 obtain⟨i0,hi,Au,nZ,uZ⟩:=info_parts BI;have fk:Pm s w 0 (.slice none 0 0) w:=⟨Q' _ _ _ _,by omega,by omega,by omega,Bel.refl w⟩;replace fk:=Xk fk;have Kd:=KZ (lE s);replace Kd:=Xk Kd;have hsI:decide ((s.size:Int)>16384)=false:=by simp;omega
 go_enter func18,ntmps18
 go_wp2_with fail
 go_step3
 go_wp2_with fail
 go_step3
 go_wp2_with fail
 go_loopw [5,6] (fun v i wr=>∃n:Nat,i= .int .i64 (42*(n:Int))∧Pm s w n v wr) (fun _ i _=>s.size - (intOf i).toNat)
 case atStart=>exact⟨0,rfl,fk.out⟩
 case round=>
  obtain⟨n,rfl,hrel⟩:=hrel;clear fk;by_cases hlt:42*n < s.size
  ·have ec:42*(n:Int) < s.size:=by omega
   obtain⟨bt,hn,H4,bK,jO⟩:=hrel;have hle:=jO.le;obtain⟨g,cap,hv⟩:∃ao cap,u5= .slice ao n cap:=by
    obtain⟨ao,cap,hv,-⟩:=K8 (A:=fun b=>w.heap.size≤b) bt (fe s n).symm (fun _ _=>rfl) (fun _ hb=>hb);exact⟨ao,cap,hv⟩
   subst hv;by_cases Kf:n < 200
   ·have VJ:(n:Int) < 200:=by omega
    have e0:=rl s (42*n) hlt;obtain⟨x,hx⟩:∃x,x=t9 (bn s) (42*n):=⟨_,rfl⟩;obtain⟨a1,a2⟩:=Kd.out (42*n);rw[←hx]at e0 a1 a2;replace e0:=e0.symm;replace hx:=Xk hx;replace bt:=Xk bt;replace bK:=Xk bK;by_cases BN:42*n+x+5≤s.size
    ·obtain⟨m,rfl⟩:∃m:Nat,x=m:=⟨x.toNat,by omega⟩;obtain⟨t,ht⟩:∃t,t=s.extract (42*n+1) (42*n+1+m):=⟨_,rfl⟩;have VK:t.size=m:=by rw[ht,Y7];omega
     obtain⟨c,hc⟩:∃c,c=vF t:=⟨_,rfl⟩;by_cases h37:m=37
     ·subst h37;have KC:=Cc t wr;simp only[zg,VK,←hc,if_true,WCmd.cs]at KC;rw[ht]at KC;have bD:c=K9 s n:=by rw[hc,vF,if_pos VK,ht];rfl
      obtain⟨z,hz⟩:∃z,z=iQ t:=⟨_,rfl⟩;have EN:=fun W=>sP t W (by omega);rw[←hz,ht]at EN;replace ht:=Xk ht;replace hc:=Xk hc;replace hz:=Xk hz;replace VK:=Xk VK;replace bD:=Xk bD;replace EN:=Xk EN;go_wp2_with fail
      refine KC.mono ?_;rintro e w1 ⟨rfl,bV⟩;clear KC;go_wp2_with fail
      refine(EN.out _).mono ?_;rintro e w2 ⟨rfl,cI⟩;by_cases hq:z=s.extract (42*n) (42*n+42)
      ·have tV:Fd s (42*n):=⟨by omega,by rw[←hq,hz.out,ht.out]⟩;replace tV:=Xk tV;have pW:cW wr w2:=ag (ag bV (au _ _)) cI;have jB:=ou pW bt.out;have lV:=jO.call pW;have q0:w2.cell? ⟨w1.heap.size,0,none⟩=some (.int .i64 c.op):=cP cI (aG (b8 _ _) rfl);have q1:w2.cell? ⟨w1.heap.size,1,none⟩=some (.int .i64 c.a):=cP cI (aG (b8 _ _) rfl);have q2:w2.cell? ⟨w1.heap.size,2,none⟩=some (.int .i64 c.b):=cP cI (aG (b8 _ _) rfl);have q3:w2.cell? ⟨w1.heap.size,3,none⟩=some (.int .i64 c.c):=cP cI (aG (b8 _ _) rfl);have q4:w2.cell? ⟨w1.heap.size,4,none⟩=some (.int .i64 c.at_):=cP cI (aG (b8 _ _) rfl);have q5:w2.cell? ⟨w1.heap.size,5,none⟩=some (.int .i64 c.len):=cP cI (aG (b8 _ _) rfl);have q6:w2.cell? ⟨w1.heap.size,6,none⟩=some (.int .i64 c.min):=cP cI (aG (b8 _ _) rfl);have q7:w2.cell? ⟨w1.heap.size,7,none⟩=some (.int .i64 c.max):=cP cI (aG (b8 _ _) rfl);have q8:w2.cell? ⟨w1.heap.size,8,none⟩=some (.int .i64 c.usual):=cP cI (aG (b8 _ _) rfl);have q9:w2.cell? ⟨w1.heap.size,9,none⟩=some (.int .i64 c.cool):=cP cI (aG (b8 _ _) rfl);have Ou:=lV.le;clear bV cI jO pW;go_wp2_with (at_builtin;refine wpList_append_own _ rfl _ _ 40 rfl w.heap.size 27 i0 (.agg #[.int .i64 0,.int .i64 0,.int .i64 0,.int .i64 0,.int .i64 0,.int .i64 0,.int .i64 0,.int .i64 0,.int .i64 0,.int .i64 0]) 10 80 underlying40 hi Au nZ uZ rfl (by decide) _ _ _ rfl (jB.alloc _) ⟨w2.heap.size,0,none⟩ 1 1 c.cs.toList rfl rfl ?c1 ?c2 (by unfold maxLen;omega) (by omega) (by simp;omega) ?_;rotate_right;intro v' w3 dL jU _)
       case c1=>
        intro u x hu;simp only[WCmd.cs]at hu;match u,hu with
        |0,hu|1,hu|2,hu|3,hu|4,hu|5,hu|6,hu|7,hu|8,hu|9,hu=>simp at hu;subst hu;simp[Addr.add]
       case c2=>intro u hu;simp[WCmd.cs]at hu;rcases hu with rfl|rfl|rfl|rfl|rfl|rfl|rfl|rfl|rfl|rfl<;>rfl
       have R:Pm s w (n+1) v' w3:=by
        refine⟨?_,by omega,by omega,?_,(lV.alloc _).grownOwn (jB.alloc _) jU (by omega)⟩
        ·rw[Ce,Y1,←bD.out];simpa using dL
        ·intro k hk;rcases XO k n with h|h
         ·exact bK.out k h
         ·obtain rfl:k=n:=by omega
          exact tV.out
       clear dL jU jB lV bt;replace R:=Xk R;go_wp2_with fail
       go_roundw
       case rel=>exact⟨n+1,by go_num,R.out⟩
       case measure=>simp[intOf];omega
      ·have bZ:=oz (v:= .slice g n cap) ⟨ou (ag (ag bV (au _ _)) cI) bt.out,hn,H4,bK.out,jO.call (ag (ag bV (au _ _)) cI)⟩ (.inr (fun hf=>hq (by rw[hz.out,ht.out];exact hf.2)));have EO:(z.toList==(s.extract (42*n) (42*n+1+37+4)).toList)=false:=Im hq;replace bZ:=Xk bZ;clear bt hq;go_wp2_with fail
       refine bodyPost_ret ?_ rfl bZ.out;simp[results,results18,go_sem]
     ·have KC:=Cc t wr;simp only[zg,VK,←hc,if_neg h37,WCmd.cs]at KC;rw[ht]at KC;have EN:=fun W=>sP t W (by omega);rw[ht]at EN;have bZ:∀W,cW wr W→AF s w (.returned (.tuple #[.slice g n cap,.int .i64 (42*(n:Int)),.int .i64 0])) W:=fun W hW=>oz ⟨ou hW bt.out,hn,H4,bK.out,jO.call hW⟩ (.inr (fun hf=>by have:=zh hf;have:=hx.out;omega));replace bZ:=Xk bZ;replace ht:=Xk ht;replace hc:=Xk hc;replace EN:=Xk EN;go_wp2_with fail
      refine KC.mono ?_;rintro e w1 ⟨rfl,bV⟩;clear KC;go_wp2_with fail
      refine(EN.out _).mono ?_;rintro e w2 ⟨rfl,cI⟩;have gY:=bZ.out w2 (ag (ag bV (au _ _)) cI);replace bZ:=Xk gY;clear gY;go_wp2_with fail
      refine bodyPost_ret ?_ rfl bZ.out;simp[results,results18,go_sem]
    ·have bZ:=oz ⟨bt.out,hn,H4,bK.out,jO⟩ (.inr (fun hf=>by have:=zh hf;have:=hf.1;have:=hx.out;omega));replace bZ:=Xk bZ;go_wp2_with fail
     refine bodyPost_ret ?_ rfl bZ.out;simp[results,results18,go_sem]
   ·have bZ:=oz ⟨bt,hn,H4,bK,jO⟩ (.inl (by omega));have VJ:¬(n:Int) < 200:=by omega
    replace bZ:=Xk bZ;clear bt bK;go_wp2_with fail
    refine bodyPost_ret ?_ rfl bZ.out;simp[results,results18,go_sem]
  ·have ec:¬(((42*(n:Int)):Int) < s.size):=by omega
   have bZ:=oz hrel (.inr (fun hf=>by have:=hf.1;omega));clear hrel;replace bZ:=Xk bZ;go_wp2_with fail
   refine bodyPost_ret ?_ rfl bZ.out;simp[results,results18,go_sem]
end
section
open Go.Proofs
def La (s:ByteArray)(w:World)(e:Ending)(w':World):Prop:=
 (s.size≤16384∧AF s w e w')∨(16384 < s.size∧e= .returned (.tuple #[.slice none 0 0,.int .i64 0,.int .i64 2])∧w'=w)
theorem Fg (s:ByteArray)(w:World):
 Calls prog 18 #[.string s] w (La s w):=by
 by_cases h:s.size≤16384
 ·exact(Ff s w h).mono fun e w' he=> .inl ⟨h,he⟩
 ·have hg:16384 < s.size:=by omega
  have hsI:decide ((s.size:Int)>16384)=true:=by simp;omega
  clear h;go_enter func18,ntmps18
  go_wp2_with fail
  go_step3
  go_wp2_with fail
  refine bodyPost_ret (v:= .tuple #[.slice none 0 0,.int .i64 0,.int .i64 2]) ?_ rfl (.inr ⟨hg,rfl,rfl⟩);simp[results,results18,go_sem]
end
inductive D where
 |v (x:Value)
 |sl (sz:Nat) (rows:List (List D))
 |ept (cells:List D)
 |agg (cells:List D)
 |tup (vs:List D)
 |clo (g:Nat) (caps:List D)
 |nei
def D.one:D→Bool
 | .v x=>x.oneCell'
 | .agg _=>false
 | .tup _=>false
 |_=>true
inductive RepD (M:Nat→Prop) (w:World):D→Value→Prop
 |v (x:Value):RepD M w (.v x) x
 |nil (sz:Nat) (ao:Option Addr) (cap:Nat) (hm:cap≤9223372036854775807):RepD M w (.sl sz []) (.slice ao 0 cap)
 |sl (sz:Nat) (rows:List (List D)) (b off cap:Nat) (f:Nat→Nat→Value) (hM:¬M b) (hb:b < w.heap.size) (hc:rows.length≤cap) (hm:cap≤9223372036854775807)
  (hr:∀r∈rows,r.length=sz) (h1:∀r∈rows,∀d∈r,d.one=true)
  (bY:∀i j,i < rows.length→j < sz→w.cell? ⟨b,off+i*sz+j,none⟩=some (f i j))
  (aY:∀(i j:Nat) (row:List D) (d:D),rows[i]? =some row→row[j]? =some d→RepD M w d (f i j)):RepD M w (.sl sz rows) (.slice (some ⟨b,off,none⟩) rows.length cap)
 |ept (cells:List D) (b off:Nat) (f:Nat→Value) (hM:¬M b) (hb:b < w.heap.size) (h1:∀d∈cells,d.one=true)
  (bY:∀j,j < cells.length→w.cell? ⟨b,off+j,none⟩=some (f j))
  (aY:∀(j:Nat) (d:D),cells[j]? =some d→RepD M w d (f j)):RepD M w (.ept cells) (.pointer (some ⟨b,off,none⟩))
 |agg (cells:List D) (vs:List Value) (hl:cells.length=vs.length) (h1:∀d∈cells,d.one=true)
  (aY:∀(j:Nat) (d:D) (x:Value),cells[j]? =some d→vs[j]? =some x→RepD M w d x):RepD M w (.agg cells) (.agg vs.toArray)
 |tup (ds:List D) (vs:List Value) (hl:ds.length=vs.length)
  (aY:∀(j:Nat) (d:D) (x:Value),ds[j]? =some d→vs[j]? =some x→RepD M w d x):RepD M w (.tup ds) (.tuple vs.toArray)
 |clo (g:Nat) (caps:List D) (vs:List Value) (hl:caps.length=vs.length)
  (aY:∀(j:Nat) (d:D) (x:Value),caps[j]? =some d→vs[j]? =some x→RepD M w d x):RepD M w (.clo g caps) (.func (.func g) #[] vs.toArray)
 |nei (t:TypeId) (x:Value):RepD M w .nei (.iface t x)
structure Keep (M:Nat→Prop)(w:World)(M':Nat→Prop)(w':World):Prop where
 size:w.heap.size≤w'.heap.size
 block:∀b,b < w.heap.size→¬M b→w'.heap[b]? =w.heap[b]?
 mu:∀b,b < w.heap.size→M' b→M b
theorem Keep.refl (M:Nat→Prop)(w:World):Keep M w M w:=⟨XC _,fun _ _ _=>rfl,fun _ _ h=>h⟩
theorem Keep.ext {M:Nat→Prop}{w w':World}(h:cW w w')(hM:∀b,M b→b < w.heap.size):Keep M w M w':=⟨h.size,fun b hb _=>h.block b hb,fun _ _ h=>h⟩
theorem RepD.keep {M M':Nat→Prop}{w w':World}(hk:Keep M w M' w'){d:D}{x:Value}(h:RepD M w d x):RepD M' w' d x:=by
 induction h with
 |v x=>exact .v x
 |nil sz ao cap hm=>exact .nil sz ao cap hm
 |sl sz rows b off cap f hM hb hc hm hr h1 bY aY ih=>
  refine .sl sz rows b off cap f (fun h=>hM (hk.mu b hb h)) (Yt hb hk.size) hc hm hr h1 (fun i j hi hj=>?_) ih;rw[←bY i j hi hj];exact Zn (a:=⟨b,off+i*sz+j,none⟩) (hk.block b hb hM)
 |ept cells b off f hM hb h1 bY aY ih=>
  refine .ept cells b off f (fun h=>hM (hk.mu b hb h)) (Yt hb hk.size) h1 (fun j hj=>?_) ih;rw[←bY j hj];exact Zn (a:=⟨b,off+j,none⟩) (hk.block b hb hM)
 |agg cells vs hl h1 aY ih=>exact .agg cells vs hl h1 ih
 |tup ds vs hl aY ih=>exact .tup ds vs hl ih
 |clo g caps vs hl aY ih=>exact .clo g caps vs hl ih
 |nei t x=>exact .nei t x
theorem RepD.one {M:Nat→Prop}{w:World}{d:D}{x:Value}(h:RepD M w d x)(h1:d.one=true):x.oneCell'=true:=by
 cases h<;>first|rfl|exact h1|(simp[D.one]at h1)
def Lb:Nat:=1
def Pn:List (Nat × (Array Value→Prop)):=[(Lb,fun vs=>vs=#[.int .u64 1,.int .u64 10,.int .u64 100,.int .u64 1000,.int .u64 10000,.int .u64 100000,.int .u64 1000000,.int .u64 10000000,.int .u64 100000000,.int .u64 1000000000,.int .u64 10000000000,.int .u64 100000000000,.int .u64 1000000000000,.int .u64 10000000000000,.int .u64 100000000000000,.int .u64 1000000000000000,.int .u64 10000000000000000,.int .u64 100000000000000000,.int .u64 1000000000000000000,.int .u64 10000000000000000000])]
def yo (M:Nat→Prop)(w:World):Prop:=∀x∈Pn,¬M x.1∧∃vs E sp,w.heap[x.1]? =some (.cells vs E sp)∧x.2 vs
theorem yo.keep {M M':Nat→Prop}{w w':World}(h:yo M w)(hk:Keep M w M' w'):yo M' w':=fun x hx=>by
 obtain⟨h1,vs,E,sp,h2,h3⟩:=h x hx;have hlt:x.1 < w.heap.size:=(Yq.1 h2).1;exact⟨fun hm=>h1 (hk.mu _ hlt hm),vs,E,sp,(hk.block _ hlt h1).trans h2,h3⟩
inductive PV where
 |d (x:D)
 |any
 |ptr (k off:Nat)
 |own (k g:Nat)
 |rp (k g sz i j:Nat)
 |osl (k g sz a n:Nat)
 |clo (g:Nat) (caps:List PV)
 |agg (cells:List PV)
 |tup (vs:List PV)
 |mref (k:Nat)
def PV.one:PV→Bool
 | .d x=>x.one
 | .any=>false
 | .agg _=>false
 | .tup _=>false
 |_=>true
def cQ:Value→Option Nat
 | .slice (some a) _ (_+1)=>some a.block
 |_=>none
inductive OwnV (w:World) (E sz:Nat):Value→Nat→List Value→Prop
 |nil:OwnV w E sz (.slice none 0 0) 0 []
 |zero (a:Addr):OwnV w E sz (.slice (some a) 0 0) 0 []
 |row (g n cap:Nat) (cur:Array Value) (xs:List Value) (h0:0 < cap) (hh:w.heap[g]? =some (.cells cur E (0,0))) (hn:n≤cap) (hm:cap≤maxLen) (hs:cur.size=cap*sz) (hl:xs.length=n*sz) (ht:cur.toList.take (n*sz)=xs):
  OwnV w E sz (.slice (some ⟨g,0,none⟩) n cap) n xs
theorem OwnV.one {w:World}{E sz:Nat}{v:Value}{n:Nat}{xs:List Value}(h:OwnV w E sz v n xs):v.oneCell'=true:=by cases h<;>rfl
theorem OwnV.len {w:World}{E sz:Nat}{v:Value}{n:Nat}{xs:List Value}(h:OwnV w E sz v n xs):xs.length=n*sz:=by
 cases h with
 |nil=>simp
 |zero=>simp
 |row g n cap cur xs h0 hh hn hm hs hl ht=>exact hl
theorem OwnV.lt {w:World}{E sz:Nat}{v:Value}{n:Nat}{xs:List Value}(h:OwnV w E sz v n xs){b:Nat}(hb:cQ v=some b):b < w.heap.size:=by
 cases h with
 |nil=>cases hb
 |zero=>cases hb
 |row g n cap cur xs h0 hh hn hm hs hl ht=>
  obtain⟨cap,rfl⟩:∃c,cap=c+1:=⟨cap - 1,by omega⟩;simp only[cQ,XX.injEq]at hb;subst hb;rcases XO g w.heap.size with hl|hl
  ·exact hl
  ·rw[Yj hl]at hh;cases hh
theorem OwnV.same {w w':World}{E sz:Nat}{v:Value}{n:Nat}{xs:List Value}(h:OwnV w E sz v n xs)(hb:∀b,cQ v=some b→w'.heap[b]? =w.heap[b]?):OwnV w' E sz v n xs:=by
 cases h with
 |nil=>exact .nil
 |zero a=>exact .zero a
 |row g n cap cur xs h0 hh hn hm hs hl ht=>
  refine .row g n cap cur xs h0 ?_ hn hm hs hl ht;rw[hb g (by obtain⟨cap,rfl⟩:∃c,cap=c+1:=⟨cap - 1,by omega⟩;rfl)];exact hh
structure Cx where
 M:Nat→Prop
 bl:Nat→Option Nat
 ov:Nat→Nat→Option Value
inductive RepP (c:Cx) (w:World):PV→Value→Prop
 |d (x:D) (v:Value) (h:RepD c.M w x v):RepP c w (.d x) v
 |any (v:Value):RepP c w .any v
 |ptr (k off b:Nat) (h:c.bl k=some b):RepP c w (.ptr k off) (.pointer (some ⟨b,off,none⟩))
 |own (k g:Nat) (v:Value) (h:c.ov k g=some v) (h1:v.oneCell'=true):RepP c w (.own k g) v
 |rp (k g sz i j b n cap:Nat) (h:c.ov k g=some (.slice (some ⟨b,0,none⟩) n cap)):RepP c w (.rp k g sz i j) (.pointer (some ⟨b,i*sz+j,none⟩))
 |osl (k g sz a n b o N cap:Nat) (h:c.ov k g=some (.slice (some ⟨b,0,none⟩) N cap)) (hn:a+n≤N) (hc:N≤cap) (ho:a < cap→o=a*sz):RepP c w (.osl k g sz a n) (.slice (some ⟨b,o,none⟩) n (cap - a))
 |clo (g:Nat) (caps:List PV) (vs:List Value) (hl:caps.length=vs.length)
  (aY:∀(j:Nat) (d:PV) (x:Value),caps[j]? =some d→vs[j]? =some x→RepP c w d x):RepP c w (.clo g caps) (.func (.func g) #[] vs.toArray)
 |agg (cells:List PV) (vs:List Value) (hl:cells.length=vs.length) (h1:∀d∈cells,d.one=true)
  (aY:∀(j:Nat) (d:PV) (x:Value),cells[j]? =some d→vs[j]? =some x→RepP c w d x):RepP c w (.agg cells) (.agg vs.toArray)
 |tup (ds:List PV) (vs:List Value) (hl:ds.length=vs.length)
  (aY:∀(j:Nat) (d:PV) (x:Value),ds[j]? =some d→vs[j]? =some x→RepP c w d x):RepP c w (.tup ds) (.tuple vs.toArray)
 |mref (k b:Nat) (h:c.bl k=some b):RepP c w (.mref k) (.map (some b))
structure Cx.le (c c':Cx):Prop where
 bl:∀k b,c.bl k=some b→c'.bl k=some b
 ov:∀k g v,c.ov k g=some v→c'.ov k g=some v
theorem Cx.le_refl (c:Cx):c.le c:=⟨fun _ _ h=>h,fun _ _ _ h=>h⟩
theorem RepP.keep {c c':Cx}{w w':World}(hc:c.le c')(hk:Keep c.M w c'.M w'){d:PV}{x:Value}(h:RepP c w d x):RepP c' w' d x:=by
 induction h with
 |d x v h=>exact .d x v (h.keep hk)
 |any v=>exact .any v
 |ptr k off b h=>exact .ptr k off b (hc.bl _ _ h)
 |own k g v h h1=>exact .own k g v (hc.ov _ _ _ h) h1
 |rp k g sz i j b n cap h=>exact .rp k g sz i j b n cap (hc.ov _ _ _ h)
 |osl k g sz a n b o N cap h hn yf ho=>exact .osl k g sz a n b o N cap (hc.ov _ _ _ h) hn yf ho
 |clo g caps vs hl aY ih=>exact .clo g caps vs hl ih
 |agg cells vs hl h1 aY ih=>exact .agg cells vs hl h1 ih
 |tup ds vs hl aY ih=>exact .tup ds vs hl ih
 |mref k b h=>exact .mref k b (hc.bl _ _ h)
theorem RepP.one {c:Cx}{w:World}{d:PV}{x:Value}(h:RepP c w d x)(h1:d.one=true):x.oneCell'=true:=by
 cases h with
 |d x v h=>exact h.one h1
 |any=>simp[PV.one]at h1
 |ptr=>rfl
 |own k g v h h2=>exact h2
 |agg=>simp[PV.one]at h1
 |tup=>simp[PV.one]at h1
 |_=>rfl
inductive Chunk where
 |none
 |gone
 |box (T:Nat) (cells:List PV)
 |row (E sz g:Nat) (rows:List (List PV))
 |mp (n:Nat) (s:Bool) (ents:List (List Int × Int))
 |it (n:Nat) (s:Bool) (ents:List (List Int × Int)) (seen:List Nat)
def ab (rows:List (List D)):List (List PV):=rows.map (·.map .d)
def iH (s:Bool)(ks:List Int):Value:=if s then .agg (ks.map (.int .i64)).toArray else .int .i64 (ks.headD 0)
def aX (s:Bool):List (List Int × Int)→Nat→List MapEntry
 |[],_=>[]
 |(k,v)::l,i=>{key:=iH s k,val:= .int .i64 v,born:=i}::aX s l (i+1)
def Cx.block (c:Cx)(k:Nat):Chunk→Option Nat
 | .box _ _=>c.bl k
 | .row _ _ g _=>(c.ov k g).bind cQ
 | .mp _ _ _=>c.bl k
 | .it _ _ _ _=>c.bl k
 |_=>Option.none
def bj (c:Cx)(w:World)(ds:List PV)(vs:List Value):Prop:=ds.length=vs.length∧∀(j:Nat) (d:PV) (x:Value),ds[j]? =some d→vs[j]? =some x→RepP c w d x
def co (M:Nat→Prop)(w:World)(ds:List D)(vs:List Value):Prop:=ds.length=vs.length∧∀(j:Nat) (d:D) (x:Value),ds[j]? =some d→vs[j]? =some x→RepD M w d x
theorem bj.keep {c c':Cx}{w w':World}(hc:c.le c')(hk:Keep c.M w c'.M w'){ds:List PV}{vs:List Value}(h:bj c w ds vs):bj c' w' ds vs:=⟨h.1,fun j d x h1 h2=>(h.2 j d x h1 h2).keep hc hk⟩
theorem co.keep {M M':Nat→Prop}{w w':World}(hk:Keep M w M' w'){ds:List D}{vs:List Value}(h:co M w ds vs):co M' w' ds vs:=⟨h.1,fun j d x h1 h2=>(h.2 j d x h1 h2).keep hk⟩
inductive ChunkOK (c:Cx) (w:World) (k:Nat):Chunk→Prop
 |none (h1:c.bl k= .none) (h2:∀g,c.ov k g= .none):ChunkOK c w k .none
 |gone:ChunkOK c w k .gone
 |box (T:Nat) (cells:List PV) (b:Nat) (vs:List Value) (hb:c.bl k=some b) (hh:w.heap[b]? =some (.cells vs.toArray T (0,0))) (hr:bj c w cells vs) (h1:∀d∈cells,d.one=true):ChunkOK c w k (.box T cells)
 |row (E sz g:Nat) (rows:List (List PV)) (v:Value) (xs:List Value) (hv:c.ov k g=some v) (bt:OwnV w E sz v rows.length xs) (hr:bj c w rows.flatten xs)
  (cM:∀r∈rows,r.length=sz) (h1:∀r∈rows,∀d∈r,d.one=true) (hg:∀g',g < g'→c.ov k g'= .none):ChunkOK c w k (.row E sz g rows)
 |mp (n:Nat) (s:Bool) (ents:List (List Int × Int)) (b:Nat) (hb:c.bl k=some b) (hh:w.heap[b]? =some (.map (aX s ents 0).toArray ents.length)) (hn:∀kv∈ents,kv.1.length=n):ChunkOK c w k (.mp n s ents)
 |it (n:Nat) (s:Bool) (ents:List (List Int × Int)) (seen:List Nat) (b bm:Nat) (hb:c.bl k=some b) (hh:w.heap[b]? =some (.mapIter (some bm) ents.length seen.toArray ents.length)) (hM:¬c.M bm) (hm:w.heap[bm]? =some (.map (aX s ents 0).toArray ents.length)):ChunkOK c w k (.it n s ents seen)
structure FS where
 env:Nat→PV
 heap:Nat→Chunk
structure ExtL (L:Nat→Prop)(w w':World):Prop where
 os:w'.os=w.os
 tape:w'.tape=w.tape
 output:w'.output=w.output
 size:w.heap.size≤w'.heap.size
 block:∀b,b < w.heap.size→¬L b→w'.heap[b]? =w.heap[b]?
theorem ExtL.refl (L:Nat→Prop)(w:World):ExtL L w w:=⟨rfl,rfl,rfl,XC _,fun _ _ _=>rfl⟩
theorem ExtL.trans {L:Nat→Prop}{w w' w'':World}(h:ExtL L w w')(g:ExtL L w' w''):ExtL L w w'':=
 ⟨g.os.trans h.os,g.tape.trans h.tape,g.output.trans h.output,Yu h.size g.size,fun b hb hl=>(g.block b (Yt hb h.size) hl).trans (h.block b hb hl)⟩
theorem ExtL.of_ext {L:Nat→Prop}{w w':World}(h:cW w w'):ExtL L w w':=⟨h.os,h.tape,h.output,h.size,fun b hb _=>h.block b hb⟩
theorem ExtL.ext {w w':World}(h:ExtL (fun _=>False) w w'):cW w w':=⟨h.os,h.tape,h.output,h.size,fun b hb=>h.block b hb id⟩
structure Cfg where
 P:Program
 n:Nat
 m:Nat
 w0:World
 M0:Nat→Prop
 L:Nat→Prop
 c0:Cx
structure RealC (X:Cfg)(s:FS)(a:Act)(w:World)(c:Cx):Prop where
 size:a.tmps.size=X.n
 defers:a.defers=[]
 ext:ExtL X.L X.w0 w
 inv:yo (fun b=>X.M0 b∨X.L b) X.w0
 fresh:∀b,X.M0 b→b < X.w0.heap.size∧¬X.L b
 mu:∀b,c.M b↔X.M0 b∨∃k,c.block k (s.heap k)=some b
 new:∀k b,c.block k (s.heap k)=some b→(X.L b∨X.w0.heap.size≤b)∧b < w.heap.size
 apart:∀k k' b,c.block k (s.heap k)=some b→c.block k' (s.heap k')=some b→k=k'
 env:∀t,RepP c w (s.env t) (a.tmps.getD t undef)
 chunk:∀k,ChunkOK c w k (s.heap k)
 lent:∀k,k < X.m→c.bl k=X.c0.bl k∧∀g v,X.c0.ov k g=some v→c.ov k g=some v
theorem RealC.ginv {X:Cfg}{s:FS}{a:Act}{w:World}{c:Cx}(h:RealC X s a w c):yo c.M w:=
 h.inv.keep ⟨h.ext.size,fun b hb hn=>h.ext.block b hb (fun hl=>hn (.inr hl)),fun b hb hm=>by
  rcases(h.mu b).1 hm with h0|⟨k,hk⟩
  ·exact .inl h0
  ·rcases(h.new k b hk).1 with h1|h1
   ·exact .inr h1
   ·omega⟩
def jW (X:Cfg)(s:FS)(a:Act)(w:World):Prop:=∃c,RealC X s a w c
structure Res where
 pv:PV
 eff:List (Nat × Chunk):=[]
 touch:List Nat:=[]
def cz:List (Nat × Chunk)→(Nat→Chunk)→Nat→Chunk
 |[],h=>h
 |(k,c)::l,h=>fun k'=>if k'=k then c else cz l h k'
def FS.put (s:FS)(dst:Option Nat)(p:PV):FS:=
 match dst with
 |some d=>{s with env:=fun t=>if t=d then p else s.env t}
 |none=>s
def FS.app (s:FS)(dst:Option Nat)(r:Res):FS:=FS.put {s with heap:=cz r.eff s.heap} dst r.pv
def bv (X:Cfg)(ops:Array Oper)(s:FS)(o:Oper)(r:Res):Prop:=
 (∀d,o.dst=some d→d < X.n)∧(∀kc∈r.eff,kc.1∈r.touch)∧
 ∀s':FS,(∀t∈o.looksAt ops,s'.env t=s.env t)→(∀k∈r.touch,s'.heap k=s.heap k)→∀a w,jW X s' a w→
  ∀K Q,(∀v w',jW X (s'.app o.dst r) (a.put o.dst v) w'→K (a.put o.dst v) w')→Oper.wp X.P o a w K Q
structure It where
 o:Oper
 want:Bool
 res:Res
def AG (ops:Array Oper)(s:FS)(j:Nat):Option (Option Bool):=
 match (ops[j]?).bind (·.dst)with
 |none=>some none
 |some t=>match s.env t with
  | .d (.v (.bool b))=>some (some b)
  | .d (.v (.tuple _))=>some none
  |_=>none
def oA (ops:Array Oper)(s:FS)(o:Oper):Option Bool:=
 match o.guard with
 |none=>some true
 |some (j,want)=>(AG ops s j).map (·==some want)
def Fh:Res:={pv:= .d (.v undef)}
def Lc (X:Cfg)(ops:Array Oper)(s:FS)(it:It):Prop:=
 oA ops s it.o=some it.want∧(it.want=true→bv X ops s it.o it.res)∧(it.want=false→it.res=Fh∧∀d,it.o.dst=some d→d < X.n)
theorem RealC.put {X:Cfg}{s:FS}{a:Act}{w:World}{c:Cx}(h:RealC X s a w c){p:PV}{v:Value}(hp:RepP c w p v){dst:Option Nat}(hd:∀d,dst=some d→d < X.n):
 RealC X (s.put dst p) (a.put dst v) w c:=by
 cases dst with
 |none=>exact h
 |some d=>
  have hd:=hd d rfl;refine⟨by simpa[Act.put]using h.size,by simpa[Act.put]using h.defers,h.ext,h.inv,h.fresh,h.mu,h.new,h.apart,fun t=>?_,h.chunk,h.lent⟩;by_cases ht:t=d
  ·subst ht;have hs:t < a.tmps.size:=by rw[h.size];exact hd
   simp only[FS.put,Act.put,if_true,Ys,Array.getElem?_setIfInBounds,hs];simpa[hs]using hp
  ·have bH:d≠t:=fun e=>ht e.symm;have:=h.env t;simp only[FS.put,Act.put,if_neg ht,Ys,_d bH];simpa[Ys]using this
theorem RealC.bool {X:Cfg}{s:FS}{a:Act}{w:World}{c:Cx}(h:RealC X s a w c){t:Nat}{x:Value}(ht:s.env t= .d (.v x)):a.tmps.getD t undef=x:=by
 have:=h.env t;rw[ht]at this;cases this with
 |d x v h=>cases h with|v=>rfl
theorem Ld {X:Cfg}{ops:Array Oper}{s:FS}{a:Act}{w:World}{o:Oper}{g:Bool}(h:jW X s a w)(hg:oA ops s o=some g):Region.wanted o (yielded ops a.tmps)=g:=by
 obtain⟨c,h⟩:=h;unfold oA at hg;unfold Region.wanted;split at hg
 ·rename_i hn;simp only[hn];exact XX.inj hg
 ·rename_i j want hj;simp only[hj];unfold AG at hg;unfold yielded;split at hg
  ·rename_i hn;rw[hn];simp at hg;simpa using hg
  ·rename_i t hn;rw[hn];split at hg
   ·rename_i b hb;have:=h.bool hb;rw[Ys]at this;cases hx:a.tmps[t]? with
    |none=>rw[hx]at this;simp[undef]at this
    |some y=>
     rw[hx]at this;simp at this;subst this;simp only[YW,hx];simpa using hg
   ·rename_i vs hb;have:=h.bool hb;rw[Ys]at this;cases hx:a.tmps[t]? with
    |none=>simp only[YW,hx];simpa using hg
    |some y=>
     rw[hx]at this;simp at this;subst this;simp only[YW,hx];simpa using hg
   ·simp at hg
theorem Le {X:Cfg}{ops:Array Oper}{s s':FS}{it:It}{i:Nat}{a:Act}{w:World}{K:Act→World→Prop}{Q:Exit→Act→World→Prop}(hi:ops[i]? =some it.o)(h:Lc X ops s it)
 (he:∀t∈it.o.looksAt ops,s'.env t=s.env t) (hk:∀k∈it.res.touch,s'.heap k=s.heap k) (hr:jW X s' a w)
 (hK:∀v w',jW X (s'.app it.o.dst it.res) (a.put it.o.dst v) w'→K (a.put it.o.dst v) w'):wpOp X.P ops Q i K a w:=by
 obtain⟨h1,h2,h3⟩:=h;have hg:oA ops s' it.o=some it.want:=by
  rw[←h1];unfold oA;split
  ·rfl
  ·rename_i j want hj;unfold AG;cases hd:(ops[j]?).bind (·.dst)with
   |none=>rfl
   |some t=>
    have:=he t (by simp[Oper.looksAt,hj,hd]);simp only[this]
 have hw:=Ld hr hg;unfold wpOp;simp only[hi,hw];cases Sk:it.want with
 |true=>
  simp only[if_true];exact .inl ((h2 Sk).2.2 s' he hk a w hr K Q hK)
 |false=>
  obtain⟨GA,tW⟩:=h3 Sk;simp only[YY,if_false];refine hK undef w ?_;rw[GA];obtain⟨c,hc⟩:=hr;exact⟨c,hc.put (.d _ _ (.v _)) tW⟩
def jX (X:Cfg)(ops:Array Oper):FS→Nat→List It→Prop
 |_,i,[]=>i=ops.size
 |s,i,it::its=>ops[i]? =some it.o∧Lc X ops s it∧jX X ops (s.app it.o.dst it.res) (i+1) its
def sR (s:FS)(its:List It):FS:=its.foldl (fun s it=>s.app it.o.dst it.res) s
theorem vH {X:Cfg}{ops:Array Oper}{Q:Exit→Act→World→Prop}:∀(its:List It) (s:FS) (i:Nat) (a:Act) (w:World),jX X ops s i its→jW X s a w→
 (∀a' w',jW X (sR s its) a' w'→Q .normal a' w')→wpOps X.P ops Q (List.range' i its.length) a w
 |[],_,_,a,w,_,hr,hQ=>hQ a w hr
 |it::its,s,i,a,w,⟨hi,KD,ht⟩,hr,hQ=>by
  rw[XD,List.range'_succ,wpOps_cons];exact Le hi KD (fun _ _=>rfl) (fun _ _=>rfl) hr fun v w' hr'=>vH its _ _ _ _ ht hr' hQ
theorem vI {X:Cfg}{ops:Array Oper}:∀(its:List It) (s:FS) (i:Nat),jX X ops s i its→i+its.length=ops.size∧∀j it,its[j]? =some it→ops[i+j]? =some it.o∧Lc X ops (sR s (its.take j)) it
 |[],_,_,h=>⟨by simpa[jX]using h,fun j it h=>by simp at h⟩
 |it::its,s,i,⟨h1,h2,h3⟩=>by
  obtain⟨ih1,ih2⟩:=vI its _ _ h3;refine⟨by simp only[XD];omega,fun j x hj=>?_⟩;cases j with
  |zero=>
   simp at hj;subst hj;exact⟨h1,h2⟩
  |succ j=>
   have:=ih2 j x (by simpa using hj);refine⟨by rw[show i+(j+1)=i+1+j by omega];exact this.1,this.2⟩
def Fi (l:List Nat)(es:List Edge):Nat:=es.foldl (fun s e=>if Region.binds .any e then s|||2 ^ e.on|||l.getD e.on 0 else s) 0
def yp (ops:Array Oper):Nat→List Nat
 |0=>[]
 |n+1=>let l:=yp ops n;l++[Fi l (((ops[n]?).map (·.after.toList)).getD [])]
def oB (ops:Array Oper)(L:Nat→Bool):Prop:=∀j o,ops[j]? =some o→L j=true→∀e∈o.after.toList,Region.binds .any e=true→L e.on=true
theorem vJ (l:List Nat)(i:Nat):∀(es:List Edge) (s:Nat),(es.foldl (fun s e=>if Region.binds .any e then s|||2 ^ e.on|||l.getD e.on 0 else s) s).testBit i=true→
 s.testBit i=true∨∃e∈es,Region.binds .any e=true∧(e.on=i∨(l.getD e.on 0).testBit i=true)
 |[],s,h=> .inl h
 |e::es,s,h=>by
  rw[YG]at h;rcases vJ l i es _ h with h|⟨e',h1,h2⟩
  ·by_cases hb:Region.binds .any e=true
   ·rw[if_pos hb,Nat.testBit_or,Nat.testBit_or,Nat.testBit_two_pow]at h;simp only[Bool.or_eq_true,decide_eq_true_eq]at h;rcases h with (h|h)|h
    ·exact .inl h
    ·exact .inr ⟨e,by simp,hb,.inl h⟩
    ·exact .inr ⟨e,by simp,hb,.inr h⟩
   ·rw[if_neg hb]at h;exact .inl h
  ·exact .inr ⟨e',YR _ h1,h2⟩
theorem ua (ops:Array Oper):∀n,(yp ops n).length=n
 |0=>rfl
 |n+1=>by simp[yp,ua ops n]
theorem iR {ops:Array Oper}{L:Nat→Bool}(hc:oB ops L):∀n j i,((yp ops n).getD j 0).testBit i=true→L j=true→L i=true
 |0,j,i,h,_=>by simp[yp]at h
 |n+1,j,i,h,hj=>by
  have aT:=ua ops n;simp only[yp,XE,List.getElem?_append]at h;split at h
  ·exact iR hc n j i (by simpa[XE]using h) hj
  ·rename_i hge;rcases XO n j with hnj|hnj
   ·rw[aT]at h;rw[show ([Fi (yp ops n) (((ops[n]?).map (·.after.toList)).getD [])]:List Nat)[j - n]? =none by simp;omega]at h;simp at h
   ·obtain rfl:j=n:=by omega
    rw[aT,Y8]at h;simp only[List.getElem?_cons_zero,Yy]at h;unfold Fi at h;cases ho:ops[j]? with
    |none=>simp[ho]at h
    |some o=>
     rw[ho]at h;rcases vJ _ _ _ _ h with h|⟨e,h1,h2,h3⟩
     ·simp at h
     ·have he:=hc j o ho hj e (by simpa using h1) h2;rcases h3 with h3|h3
      ·rw[←h3];exact he
      ·exact iR hc j e.on i (by simpa[XE]using h3) he
def vK (ops:Array Oper)(x y:Oper)(kx ky tx ty:List Nat):Bool:=x.apart ops y&&kx.all (fun k=>!ty.contains k)&&ky.all (fun k=>!tx.contains k)
def oC (ops:Array Oper)(sm:List (List Nat × List Nat)):Bool:=
 let l:=yp ops ops.size
 (X3 ops.size).all fun j=>(X3 j).all fun i=>(l.getD j 0).testBit i||
  (match ops[i]?,ops[j]? with
   |some x,some y=>vK ops x y (sm.getD i ([],[])).1 (sm.getD j ([],[])).1 (sm.getD i ([],[])).2 (sm.getD j ([],[])).2
   |_,_=>false)
def Cf (its:List It)(s:FS)(i:Nat):FS:=match its[i]? with|some it=>s.app it.o.dst it.res|none=>s
def mg (s:FS)(its:List It)(L:Nat→Bool):FS:=((X3 its.length).filter L).foldl (Cf its) s
def d5 (its:List It)(t:Nat)(i:Nat):Bool:=match its[i]? with|some it=>it.o.dst==some t|none=>false
def dM (its:List It)(k:Nat)(i:Nat):Bool:=match its[i]? with|some it=>(it.res.eff.map (·.1)).contains k|none=>false
theorem AH {k:Nat}{h:Nat→Chunk}:∀{l:List (Nat × Chunk)},(l.map (·.1)).contains k=false→cz l h k=h k
 |[],_=>rfl
 |(k',c)::l,hn=>by
  simp only[Xm,List.contains_cons,Zo,beq_eq_false_iff_ne,ne_eq]at hn;simp only[cz,if_neg hn.1];exact AH hn.2
theorem AI {k:Nat}{h h':Nat→Chunk}:∀{l:List (Nat × Chunk)},(l.map (·.1)).contains k=true→cz l h k=cz l h' k
 |[],hn=>by simp at hn
 |(k',c)::l,hn=>by
  simp only[cz];split
  ·rfl
  ·rename_i bH;refine AI ?_;simpa[bH]using hn
theorem ro {s:FS}{dst:Option Nat}{r:Res}{t:Nat}:(s.app dst r).env t=if dst=some t then r.pv else s.env t:=by
 cases dst with
 |none=>simp[FS.app,FS.put]
 |some d=>
  simp only[FS.app,FS.put,XX.injEq];by_cases h:t=d
  ·subst h;simp
  ·rw[if_neg h,if_neg (fun e=>h e.symm)]
theorem oD {s:FS}{dst:Option Nat}{r:Res}{k:Nat}:(s.app dst r).heap k=cz r.eff s.heap k:=by
 cases dst<;>rfl
theorem rq (its:List It)(t:Nat):∀(l:List Nat) (s:FS),(l.foldl (Cf its) s).env t=((l.filter (d5 its t)).foldl (Cf its) s).env t:=by
 have key:∀(l:List Nat) (s s':FS),s.env t=s'.env t→(l.foldl (Cf its) s).env t=((l.filter (d5 its t)).foldl (Cf its) s').env t:=by
  intro l;induction l with
  |nil=>intro s s' h;exact h
  |cons i l ih=>
   intro s s' h;rw[YG,_f];by_cases hw:d5 its t i=true
   ·rw[if_pos hw,YG];refine ih _ _ ?_;unfold Cf;unfold d5 at hw;split<;>rename_i hi<;>rw[hi]at hw
    ·rw[ro,ro,if_pos (by simpa using hw),if_pos (by simpa using hw)]
    ·cases hw
   ·rw[if_neg hw];refine ih _ _ ?_;unfold Cf;unfold d5 at hw;split<;>rename_i hi<;>rw[hi]at hw
    ·rw[ro,if_neg (by simpa using hw),h]
    ·exact h
 intro l s;exact key l s s rfl
theorem pr (its:List It)(k:Nat):∀(l:List Nat) (s:FS),(l.foldl (Cf its) s).heap k=((l.filter (dM its k)).foldl (Cf its) s).heap k:=by
 have key:∀(l:List Nat) (s s':FS),s.heap k=s'.heap k→(l.foldl (Cf its) s).heap k=((l.filter (dM its k)).foldl (Cf its) s').heap k:=by
  intro l;induction l with
  |nil=>intro s s' h;exact h
  |cons i l ih=>
   intro s s' h;rw[YG,_f];by_cases hw:dM its k i=true
   ·rw[if_pos hw,YG];refine ih _ _ ?_;unfold Cf;unfold dM at hw;split<;>rename_i hi<;>rw[hi]at hw
    ·rw[oD,oD,AI hw]
    ·cases hw
   ·rw[if_neg hw];refine ih _ _ ?_;unfold Cf;unfold dM at hw;split<;>rename_i hi<;>rw[hi]at hw
    ·rw[oD,AH (by simpa using hw),h]
    ·exact h
 intro l s;exact key l s s rfl
theorem rt (s:FS)(its:List It):∀i,i≤its.length→sR s (its.take i)=(X3 i).foldl (Cf its) s
 |0,_=>rfl
 |i+1,h=>by
  rw[P',Zr,←rt s its i (by omega)];have hi:its[i]? =some its[i]:=Xj (by omega);simp only[YG,List.foldl_nil,Cf,hi,sR];rw[Zq (by omega),Zr];rfl
theorem m9 {n i:Nat}(hi:i≤n){p q:Nat→Bool}(h1:∀j,j < i→p j=q j)(h2:∀j,i≤j→j < n→p j=false):(X3 n).filter p=(X3 i).filter q:=by
 obtain⟨m,rfl⟩:∃m,n=i+m:=⟨n - i,by omega⟩;rw[List.range_add,ZN];have e1:(X3 i).filter p=(X3 i).filter q:=B' fun j hj=>h1 j (YP.1 hj);have e2:(List.map (fun x=>i+x) (X3 m)).filter p=[]:=by
  rw[S'];intro j hj;obtain⟨x,hx,rfl⟩:=XH.1 hj;have:=YP.1 hx;rw[h2 _ (by omega) (by omega)];simp
 rw[e1,e2,Ya]
def Fj (its:List It):List (List Nat × List Nat):=its.map fun it=>(it.res.eff.map (·.1),it.res.touch)
def oE (ops:Array Oper):Bool:=(X3 ops.size).all fun i=>((ops[i]?).map fun o=>o.after.toList.all fun e=>!Region.binds .any e||decide (e.on < i)).getD true
section
variable {X:Cfg}{ops:Array Oper}{s:FS}{its:List It}
structure Plan (X:Cfg)(ops:Array Oper)(s:FS)(its:List It):Prop where
 len:its.length=ops.size
 at_:∀(j:Nat) (it:It),its[j]? =some it→ops[j]? =some it.o∧Lc X ops (sR s (its.take j)) it
 ind:∀(i j:Nat) (x y:It),i < j→its[i]? =some x→its[j]? =some y→((yp ops ops.size).getD j 0).testBit i=true∨vK ops x.o y.o (x.res.eff.map (·.1)) (y.res.eff.map (·.1)) x.res.touch y.res.touch=true
 sub:∀(j:Nat) (it:It),its[j]? =some it→∀kc∈it.res.eff,kc.1∈it.res.touch
 back:∀(i:Nat) (o:Oper),ops[i]? =some o→∀e∈o.after.toList,Region.binds .any e=true→e.on < i
theorem Po (ht:jX X ops s 0 its)(hi:oC ops (Fj its)=true)(hb:oE ops=true):Plan X ops s its:=by
 obtain⟨h1,h2⟩:=vI its s 0 ht;simp only[XK]at h1 h2;refine⟨h1,h2,fun i j x y hij hx hy=>?_,fun j it hj kc Pa=>?_,fun i o ho e he VL=>?_⟩
 ·have VM:j < ops.size:=by rw[←h1];exact(Xo.1 hy).1
  unfold oC at hi;simp only[XB,YP]at hi;have:=hi j VM i hij;rw[(h2 i x hx).1,(h2 j y hy).1]at this;simp only[Fj,XE,XA,hx,hy,Yg,Yy,Bool.or_eq_true]at this;simpa[XE]using this
 ·obtain⟨_,h3,h4,h5⟩:=h2 j it hj;cases hw:it.want with
  |true=>exact(h4 hw).2.1 kc Pa
  |false=>rw[(h5 hw).1]at Pa;simp[Fh]at Pa
 ·unfold oE at hb;simp only[XB,YP]at hb;have:=hb i (Yq.1 ho).1;rw[ho]at this;simp only[Yg,Yy,XB]at this;have:=this e he;simpa[VL]using this
def uL (listed:Array Bool):Nat→Bool:=fun j=>listed.getD j false
theorem gG {x y:Oper}{kx ky tx ty:List Nat}(h:vK ops x y kx ky tx ty=true):x.apart ops y=true∧(∀k∈kx,k∉ty)∧(∀k∈ky,k∉tx):=by
 simp only[vK,Xy,XB,ZV,List.contains_eq_mem,decide_eq_false_iff_not]at h;exact⟨h.1.1,h.1.2,h.2⟩
theorem ub {L:Nat→Bool}(hc:oB ops L){i:Nat}{o:Oper}(ho:ops[i]? =some o)(hr:∀e∈o.after,Region.binds .any e=true→L e.on=true):oB ops (fun j=>L j||j==i):=by
 intro j o' ho' hj e he hb;simp only[Bool.or_eq_true,beq_iff_eq]at hj ⊢;rcases hj with hj|hj
 ·exact .inl (hc j o' ho' hj e he hb)
 ·subst hj;rw[ho]at ho';cases ho';exact .inl (hr e (by simpa using he) hb)
theorem ru {L:Nat→Bool}(hc:oB ops L){i j:Nat}{o:Oper}(ho:ops[i]? =some o)(hr:∀e∈o.after,Region.binds .any e=true→L e.on=true)
 (hij:j≠i) (hb:((yp ops ops.size).getD i 0).testBit j=true):L j=true:=by
 have:=iR (ub hc ho hr) ops.size i j hb (by simp);simpa[hij]using this
variable (hp:Plan X ops s its)
include hp
theorem In {L:Nat→Bool}(hc:oB ops L){i:Nat}{it:It}(hi:its[i]? =some it)(hL:L i=false)(hr:∀e∈it.o.after,Region.binds .any e=true→L e.on=true)(t:Nat)(ht:t∈it.o.looksAt ops):
 (mg s its L).env t=(sR s (its.take i)).env t:=by
 have fl:i < its.length:=(Xo.1 hi).1;have Sm:=(hp.at_ i it hi).1;unfold mg;rw[rq its t ((X3 its.length).filter L),rt s its i (by omega),rq its t (X3 i),Zj];rw[m9 (i:=i) (q:=d5 its t) (by omega)]
 ·intro j hj;by_cases hw:d5 its t j=true
  ·have GB:L j=true:=by
    unfold d5 at hw;split at hw
    ·rename_i x hx;rcases hp.ind j i x it hj hx hi with hb|hn
     ·exact ru hc Sm hr (by omega) hb
     ·exact absurd ht ((Oper.apart_spec (gG hn).1).1 t (by simpa using hw))
    ·cases hw
   simp[hw,GB]
  ·simp at hw;simp[hw]
 ·intro j hj VM;by_cases hw:d5 its t j=true
  ·rcases XO i j with hij|hij
   ·cases GB:L j with
    |false=>simp
    |true=>
     unfold d5 at hw;split at hw
     ·rename_i x hx;rcases hp.ind i j it x hij hi hx with hb|hn
      ·rw[iR hc ops.size j i hb GB]at hL;cases hL
      ·exact absurd ht ((Oper.apart_spec (gG hn).1).2.2 t (by simpa using hw))
     ·cases hw
   ·obtain rfl:j=i:=by omega
    simp[hL]
  ·simp at hw;simp[hw]
theorem Fk {L:Nat→Bool}(hc:oB ops L){i:Nat}{it:It}(hi:its[i]? =some it)(hL:L i=false)(hr:∀e∈it.o.after,Region.binds .any e=true→L e.on=true)(k:Nat)(ht:k∈it.res.touch):
 (mg s its L).heap k=(sR s (its.take i)).heap k:=by
 have fl:i < its.length:=(Xo.1 hi).1;have Sm:=(hp.at_ i it hi).1;unfold mg;rw[pr its k ((X3 its.length).filter L),rt s its i (by omega),pr its k (X3 i),Zj];rw[m9 (i:=i) (q:=dM its k) (by omega)]
 ·intro j hj;by_cases hw:dM its k j=true
  ·have GB:L j=true:=by
    unfold dM at hw;split at hw
    ·rename_i x hx;rcases hp.ind j i x it hj hx hi with hb|hn
     ·exact ru hc Sm hr (by omega) hb
     ·exact absurd ht ((gG hn).2.1 k (by simpa using hw))
    ·cases hw
   simp[hw,GB]
  ·simp at hw;simp[hw]
 ·intro j hj VM;by_cases hw:dM its k j=true
  ·rcases XO i j with hij|hij
   ·cases GB:L j with
    |false=>simp
    |true=>
     unfold dM at hw;split at hw
     ·rename_i x hx;rcases hp.ind i j it x hij hi hx with hb|hn
      ·rw[iR hc ops.size j i hb GB]at hL;cases hL
      ·exact absurd ht ((gG hn).2.2 k (by simpa using hw))
     ·cases hw
   ·obtain rfl:j=i:=by omega
    simp[hL]
  ·simp at hw;simp[hw]
theorem Lf {L:Nat→Bool}(hc:oB ops L){i:Nat}{it:It}(hi:its[i]? =some it)(hL:L i=false):
 mg s its (fun j=>L j||j==i)=(mg s its L).app it.o.dst it.res:=by
 have fl:i < its.length:=(Xo.1 hi).1;have late:∀(j:Nat) (x:It),i < j→its[j]? =some x→L j=true→vK ops it.o x.o (it.res.eff.map (·.1)) (x.res.eff.map (·.1)) it.res.touch x.res.touch=true:=by
  intro j x hij hx GB;rcases hp.ind i j it x hij hi hx with hb|hn
  ·rw[iR hc ops.size j i hb GB]at hL;cases hL
  ·exact hn
 have Ov:∀t,(mg s its (fun j=>L j||j==i)).env t=((mg s its L).app it.o.dst it.res).env t:=by
  intro t;rw[ro];unfold mg;rw[rq,Zj];by_cases hw:it.o.dst=some t
  ·rw[if_pos hw];rw[m9 (i:=i+1) (q:=fun j=>d5 its t j&&(L j||j==i)) (by omega) (fun _ _=>rfl),P',ZN,Zr]
   ·have:(fun j=>d5 its t j&&(L j||j==i)) i=true:=by simp[d5,hi,hw]
    rw[_f,if_pos this,List.filter_nil,YG,List.foldl_nil];simp only[Cf,hi];rw[ro,if_pos hw]
   ·intro j hj VM;cases GB:L j with
    |false=>
     have lx:(j==i)=false:=by rw[beq_eq_false_iff_ne];omega
     simp only[lx,GB,Bool.or_self,Bool.and_false]
    |true=>
     cases hx:its[j]? with
     |none=>simp[d5,hx]
     |some x=>
      have h2:=(Oper.apart_spec (gG (late j x (by omega) hx GB)).1).2.1 t hw;simp[d5,hx,h2]
  ·rw[if_neg hw,rq its t ((X3 its.length).filter L),Zj];rw[B' (p:=fun j=>d5 its t j&&(L j||j==i)) (q:=fun j=>d5 its t j&&L j)];intro j _;by_cases lx:j=i
   ·subst lx;simp[d5,hi,hw]
   ·have Kg:(j==i)=false:=by rw[beq_eq_false_iff_ne];exact lx
    simp only[Kg,Bool.or_false]
 have VN:∀k,(mg s its (fun j=>L j||j==i)).heap k=((mg s its L).app it.o.dst it.res).heap k:=by
  intro k;rw[oD];unfold mg;rw[pr,Zj];by_cases hw:(it.res.eff.map (·.1)).contains k=true
  ·rw[m9 (i:=i+1) (q:=fun j=>dM its k j&&(L j||j==i)) (by omega) (fun _ _=>rfl),P',ZN,Zr]
   ·have:(fun j=>dM its k j&&(L j||j==i)) i=true:=by
     simp only[dM,hi,hw];simp
    rw[_f,if_pos this,List.filter_nil,YG,List.foldl_nil];simp only[Cf,hi];rw[oD];exact AI hw
   ·intro j hj VM;cases GB:L j with
    |false=>
     have lx:(j==i)=false:=by rw[beq_eq_false_iff_ne];omega
     simp only[lx,GB,Bool.or_self,Bool.and_false]
    |true=>
     cases hx:its[j]? with
     |none=>simp[dM,hx]
     |some x=>
      have h2:=(gG (late j x (by omega) hx GB)).2.1 k (by simpa using hw);have h3:(x.res.eff.map (·.1)).contains k=false:=by
       cases ji:(x.res.eff.map (·.1)).contains k with
       |false=>rfl
       |true=>
        obtain⟨kc,h4,h5⟩:=XH.1 (by simpa using ji:k∈x.res.eff.map (·.1));exact absurd (h5 ▸ hp.sub j x hx kc h4) h2
      simp only[dM,hx,h3,Bool.false_and]
  ·rw[AH (by simpa using hw),pr its k ((X3 its.length).filter L),Zj];rw[B' (p:=fun j=>dM its k j&&(L j||j==i)) (q:=fun j=>dM its k j&&L j)];intro j _;by_cases lx:j=i
   ·subst lx;have:dM its k j=false:=by simp only[dM,hi];simpa using hw
    simp[this]
   ·have Kg:(j==i)=false:=by rw[beq_eq_false_iff_ne];exact lx
    simp only[Kg,Bool.or_false]
 generalize e1:mg s its (fun j=>L j||j==i)=x at*;generalize e2:(mg s its L).app it.o.dst it.res=y at*;cases x;cases y;simp only[FS.mk.injEq];exact⟨funext Ov,funext VN⟩
theorem Fl {listed:Array Bool}(hs:listed.size=ops.size)(hr:Region.ready .any ops listed=[]):∀j,j < ops.size→uL listed j=true:=by
 intro j;induction j using Nat.strongRecOn with
 |_ j ih=>
  intro hj;cases hl:uL listed j with
  |true=>rfl
  |false=>
   obtain⟨o,ho⟩:∃o,ops[j]? =some o:=⟨ops[j],YN hj⟩;have:j∈Region.ready .any ops listed:=by
    rw[mem_ready];refine⟨?_,o,ho,fun e he hb=>?_⟩
    ·unfold uL at hl;rw[Ys,YN (by omega)]at hl ⊢;simpa using hl
    ·have hlt:=hp.back j o ho e (by simpa using he) hb;exact ih e.on hlt (by omega)
   rw[hr]at this;cases this
theorem Lg {Q:Exit→Act→World→Prop}(hQ:∀a' w',jW X (sR s its) a' w'→Q .normal a' w'):∀(fuel:Nat) (listed:Array Bool) (a:Act) (w:World),listed.size=ops.size→oB ops (uL listed)→
 jW X (mg s its (uL listed)) a w→((X3 ops.size).filter fun j=>!uL listed j).length≤fuel→wpAny X.P .any ops Q fuel listed a w:=by
 have fin:∀(listed:Array Bool) (a:Act) (w:World),listed.size=ops.size→jW X (mg s its (uL listed)) a w→Region.ready .any ops listed=[]→Q .normal a w:=by
  intro listed a w hs hr he;have bK:=Fl hp hs he;have:mg s its (uL listed)=sR s its:=by
   have h1:=rt s its its.length (XC _);rw[Xq]at h1;rw[h1];unfold mg;congr 1;rw[List.filter_eq_self];intro j hj;exact bK j (by rw[←hp.len];exact YP.1 hj)
  rw[this]at hr;exact hQ a w hr
 intro fuel;induction fuel with
 |zero=>
  intro listed a w hs hc hr hn;have bK:∀j,j < ops.size→uL listed j=true:=by
   intro j hj;have h0:=XZ (Nat.le_zero.1 hn);rw[S']at h0;have:=h0 j (YP.2 hj);simpa using this
  have he:Region.ready .any ops listed=[]:=by
   rw[List.eq_nil_iff_forall_not_mem];intro j hj;rw[mem_ready]at hj;obtain⟨h1,o,ho,_⟩:=hj;have hlt:=(Yq.1 ho).1;have:=bK j hlt;unfold uL at this;rw[Ys,YN (by omega)]at this h1;simp at this h1;rw[this]at h1;cases h1
  exact⟨he,fin listed a w hs hr he⟩
 |succ fuel ih=>
  intro listed a w hs hc hr hn;refine⟨fin listed a w hs hr,fun i hi=>?_⟩;rw[mem_ready]at hi;obtain⟨h1,o,ho,bK⟩:=hi;have hlt:=(Yq.1 ho).1;have hL:uL listed i=false:=by
   unfold uL;rw[Ys,YN (by omega)]at h1 ⊢;simpa using h1
  obtain⟨it,KD⟩:∃it,its[i]? =some it:=⟨its[i]'(by rw[hp.len];exact hlt),Xj _⟩;obtain⟨Sm,cC⟩:=hp.at_ i it KD;rw[ho]at Sm;cases Sm;have hLn:uL (listed.setIfInBounds i true)=fun j=>uL listed j||j==i:=by
   funext j;unfold uL;by_cases lx:j=i
   ·subst lx;simp[Ys,hs,hlt]
   ·rw[getD_set_ne false (fun e=>lx e.symm)];simp[lx]
  refine Le ho cC (In hp hc KD hL bK) (Fk hp hc KD hL bK) hr fun v w' hr'=>?_;refine ih _ _ _ (by simpa using hs) ?_ ?_ ?_
  ·rw[hLn];exact ub hc ho bK
  ·rw[hLn,Lf hp hc KD hL];exact hr'
  ·rw[hLn];have a0k:((X3 ops.size).filter fun j=>!(uL listed j||j==i)).length < ((X3 ops.size).filter fun j=>!uL listed j).length:=by
    have xS:((X3 ops.size).filter fun j=>!(uL listed j||j==i))=((X3 ops.size).filter fun j=>!uL listed j).filter (fun j=>!(j==i)):=by
     rw[Zj];exact B' fun j _=>by cases uL listed j<;>simp
    rw[xS];refine List.length_filter_lt_length_iff_exists.2 ⟨i,?_,by simp⟩;rw[Zt];exact⟨YP.2 hlt,by simp[hL]⟩
   show ((X3 ops.size).filter fun j=>!(uL listed j||j==i)).length≤fuel;omega
end
theorem zi (n j:Nat):uL (Y9 n false) j=false:=by
 unfold uL;rw[Ys,Array.getElem?_replicate];split<;>rfl
theorem Cg {X:Cfg}{ops:Array Oper}{s:FS}{its:List It}{Q:Exit→Act→World→Prop}{a:Act}{w:World}(hm:X.P.follows .mixedOrders=true)(id:Nat)(draw:Bool)(ht:jX X ops s 0 its)(hd:draw=true→oC ops (Fj its)=true∧oE ops=true)
 (hr:jW X s a w) (hQ:∀a' w',jW X (sR s its) a' w'→Q .normal a' w'):(Code.region id ops draw).wp X.P Q a w:=by
 cases draw with
 |false=>
  refine wp_region ?_;have h1:=(vI its s 0 ht).1;have:=vH its s 0 a w ht hr hQ;rw[List.range_eq_range',←h1,XK];exact this
 |true=>
  obtain⟨hi,hb⟩:=hd rfl;refine wp_region_any hm (Lg (Po ht hi hb) hQ _ _ _ _ (by simp) ?_ ?_ ?_)
  ·intro j o ho hj;rw[zi]at hj;cases hj
  ·have:mg s its (uL (Y9 ops.size false))=s:=by
    unfold mg;have:(X3 its.length).filter (uL (Y9 ops.size false))=[]:=by
     rw[S'];intro j _;simp[zi]
    rw[this];rfl
   rw[this];obtain⟨c,hc⟩:=hr;refine⟨c,hc.size,hc.defers,⟨hc.ext.os,hc.ext.tape,hc.ext.output,hc.ext.size,hc.ext.block⟩,hc.inv,hc.fresh,hc.mu,hc.new,hc.apart,fun t=>?_,fun k=>?_,hc.lent⟩
   ·have hk:Keep c.M w c.M {w with drawn:=w.drawn+1}:=⟨XC _,fun _ _ _=>rfl,fun _ _ h=>h⟩;exact(hc.env t).keep c.le_refl hk
   ·have hk:Keep c.M w c.M {w with drawn:=w.drawn+1}:=⟨XC _,fun _ _ _=>rfl,fun _ _ h=>h⟩;cases bD:s.heap k with
    |none=>have:=hc.chunk k;rw[bD]at this;cases this with|none h1 h2=>exact .none h1 h2
    |gone=>exact .gone
    |box T cells=>have:=hc.chunk k;rw[bD]at this;cases this with|box _ _ b vs hb hh hr h1=>exact .box T cells b vs hb hh (hr.keep c.le_refl hk) h1
    |row E sz g rows=>have:=hc.chunk k;rw[bD]at this;cases this with|row _ _ _ _ v xs hv bt hr cM h1 hg=>exact .row E sz g rows v xs hv (bt.same fun _ _=>rfl) (hr.keep c.le_refl hk) cM h1 hg
    |mp nB sB ents=>have:=hc.chunk k;rw[bD]at this;cases this with|mp _ _ _ b hb hh hn=>exact .mp nB sB ents b hb hh hn
    |it nB sB ents seen=>have:=hc.chunk k;rw[bD]at this;cases this with|it _ _ _ _ b bm hb hh hM hm=>exact .it nB sB ents seen b bm hb hh hM hm
  ·refine Yu (Zw _ _) ?_;simp
theorem ChunkOK.keep {k:Nat}{c c':Cx}{w w':World}{ch:Chunk}(h:ChunkOK c w k ch)(hle:c.le c')(hk:Keep c.M w c'.M w')(hb:∀b,c.block k ch=some b→w'.heap[b]? =w.heap[b]?)
 (rc:c'.bl k=c.bl k) (ed:c'.ov k=c.ov k):ChunkOK c' w' k ch:=by
 cases h with
 |none h1 h2=>exact .none (by rw[rc];exact h1) (fun g=>by rw[ed];exact h2 g)
 |gone=>exact .gone
 |box T cells b vs dv hh hr h1=>exact .box T cells b vs (by rw[rc];exact dv) (by rw[hb b dv];exact hh) (hr.keep hle hk) h1
 |row E sz g rows v xs hv bt hr cM h1 hg=>
  exact .row E sz g rows v xs (by rw[ed];exact hv) (bt.same fun b e=>hb b (by simp[Cx.block,hv,e])) (hr.keep hle hk) cM h1 (by rw[ed];exact hg)
 |mp nB sB ents b dv hh hn=>exact .mp nB sB ents b (by rw[rc];exact dv) (by rw[hb b dv];exact hh) hn
 |it nB sB ents seen b bm dv hh hM hm=>
  have hlt:bm < w.heap.size:=(Yq.1 hm).1;exact .it nB sB ents seen b bm (by rw[rc];exact dv) (by rw[hb b dv];exact hh) (fun h=>hM (hk.mu _ hlt h)) (by rw[hk.block _ hlt hM];exact hm)
theorem RealC.lt {X:Cfg}{s:FS}{a:Act}{w:World}{c:Cx}(h:RealC X s a w c){b:Nat}(hb:c.M b):b < w.heap.size:=by
 rcases(h.mu b).1 hb with h0|⟨k,hk⟩
 ·exact Yt (h.fresh b h0).1 h.ext.size
 ·exact(h.new k b hk).2
theorem RealC.grow {X:Cfg}{s:FS}{a:Act}{w w':World}{c:Cx}(h:RealC X s a w c)(hx:cW w w'):RealC X s a w' c:=by
 have hk:Keep c.M w c.M w':=Keep.ext hx fun b hb=>h.lt hb;exact⟨h.size,h.defers,h.ext.trans (.of_ext hx),h.inv,h.fresh,h.mu,fun k b hb=>⟨(h.new k b hb).1,Yt (h.new k b hb).2 hx.size⟩,h.apart,fun t=>(h.env t).keep c.le_refl hk,
  fun k=>(h.chunk k).keep c.le_refl hk (fun b hb=>hx.block b (h.new k b hb).2) rfl rfl,h.lent⟩
theorem iS (w:World)(o:Obj):cW w (w.alloc o):=(Below.refl _ _).alloc (XC _) o
theorem jm (w:World)(o:Obj):(w.alloc o).heap[w.heap.size]? =some o:=by
 show (w.heap.push o)[w.heap.size]? =some o;simp
theorem size_alloc (w:World)(o:Obj):(w.alloc o).heap.size=w.heap.size+1:=by
 show (w.heap.push o).size=_;simp
theorem ry (k:Nat)(c:Chunk)(h:Nat→Chunk):cz [(k,c)] h=fun k'=>if k'=k then c else h k':=rfl
theorem RealC.new_chunk {X:Cfg}{s:FS}{a:Act}{w w':World}{c c':Cx}(h:RealC X s a w c){k:Nat}{ch:Chunk}(hk:s.heap k= .none)(uF:¬k < X.m)(hx:cW w w')(hle:c.le c')(rc:∀k',k'≠k→c'.bl k'=c.bl k')(ed:∀k',k'≠k→c'.ov k'=c.ov k')
 (hM:∀b,c'.M b↔c.M b∨c'.block k ch=some b) (lu:∀b,c'.block k ch=some b→w.heap.size≤b∧b < w'.heap.size)
 (RG:Keep c.M w c'.M w'→ChunkOK c' w' k ch):RealC X {s with heap:=cz [(k,ch)] s.heap} a w' c':=by
 have ol:Keep c.M w c'.M w':=⟨hx.size,fun b hb _=>hx.block b hb,fun b hb hm=>by
  rcases(hM b).1 hm with h1|h1
  ·exact h1
  ·have:=(lu b h1).1;omega⟩
 have cV:∀k' ch',k'≠k→c'.block k' ch'=c.block k' ch':=by
  intro k' ch' bH;cases ch'<;>simp[Cx.block,rc k' bH,ed k' bH]
 have kf:∀k',cz [(k,ch)] s.heap k'=if k'=k then ch else s.heap k':=fun _=>rfl;refine⟨h.size,h.defers,h.ext.trans (.of_ext hx),h.inv,h.fresh,fun b=>?_,fun k' b hb=>?_,fun k' k'' b hb hb'=>?_,fun t=>(h.env t).keep hle ol,fun k'=>?_,fun k' hk'=>⟨(rc k' (fun e=>uF (e ▸ hk'))).trans (h.lent k' hk').1,fun g v hv=>hle.ov _ _ _ ((h.lent k' hk').2 g v hv)⟩⟩
 ·rw[hM b,h.mu b];constructor
  ·rintro ((h0|⟨k',h1⟩)|h1)
   ·exact .inl h0
   ·refine .inr ⟨k',?_⟩;have bH:k'≠k:=fun e=>by subst e;rw[hk]at h1;simp[Cx.block]at h1
    show c'.block k' (cz [(k,ch)] s.heap k')=_;rw[kf,if_neg bH,cV k' _ bH];exact h1
   ·refine .inr ⟨k,?_⟩;show c'.block k (cz [(k,ch)] s.heap k)=_;rw[kf,if_pos rfl];exact h1
  ·rintro (h0|⟨k',h1⟩)
   ·exact .inl (.inl h0)
   ·simp only[kf]at h1;by_cases bH:k'=k
    ·subst bH;rw[if_pos rfl]at h1;exact .inr h1
    ·rw[if_neg bH,cV k' _ bH]at h1;exact .inl (.inr ⟨k',h1⟩)
 ·simp only[kf]at hb;by_cases bH:k'=k
  ·subst bH;rw[if_pos rfl]at hb;exact⟨.inr (Yu h.ext.size (lu b hb).1),(lu b hb).2⟩
  ·rw[if_neg bH,cV k' _ bH]at hb;exact⟨(h.new k' b hb).1,Yt (h.new k' b hb).2 hx.size⟩
 ·simp only[kf]at hb hb';by_cases h1:k'=k
  ·by_cases h2:k''=k
   ·omega
   ·subst h1;rw[if_pos rfl]at hb;rw[if_neg h2,cV k'' _ h2]at hb';have:=(lu b hb).1;have:=(h.new k'' b hb').2;omega
  ·by_cases h2:k''=k
   ·subst h2;rw[if_pos rfl]at hb';rw[if_neg h1,cV k' _ h1]at hb;have:=(lu b hb').1;have:=(h.new k' b hb).2;omega
   ·rw[if_neg h1,cV k' _ h1]at hb;rw[if_neg h2,cV k'' _ h2]at hb';exact h.apart k' k'' b hb hb'
 ·simp only[kf];by_cases bH:k'=k
  ·subst bH;rw[if_pos rfl];exact RG ol
  ·rw[if_neg bH];exact(h.chunk k').keep hle ol (fun b hb=>hx.block b (h.new k' b hb).2) (rc k' bH) (ed k' bH)
theorem RealC.new_box {X:Cfg}{s:FS}{a:Act}{w:World}{c:Cx}(h:RealC X s a w c){k:Nat}(hk:s.heap k= .none)(uF:¬k < X.m)(T:Nat)(cells:List PV)(vs:List Value)(hr:bj c w cells vs)(h1:∀d∈cells,d.one=true):
 ∃c',RealC X {s with heap:=cz [(k,.box T cells)] s.heap} a (w.alloc (.cells vs.toArray T)) c'∧RepP c' (w.alloc (.cells vs.toArray T)) (.ptr k 0) (.pointer (some ⟨w.heap.size,0,none⟩)):=by
 have bD:=h.chunk k;rw[hk]at bD;cases bD with
 |none GC VO=>
  have hx:=iS w (.cells vs.toArray T);have dv:(fun k'=>if k'=k then some w.heap.size else c.bl k') k=some w.heap.size:=if_pos rfl;refine⟨{M:=fun b=>c.M b∨b=w.heap.size,bl:=fun k'=>if k'=k then some w.heap.size else c.bl k',ov:=c.ov},?_,.ptr k 0 _ dv⟩;have hle:c.le {M:=fun b=>c.M b∨b=w.heap.size,bl:=fun k'=>if k'=k then some w.heap.size else c.bl k',ov:=c.ov}:=
   ⟨fun k' b hb=>by
    have:k'≠k:=fun e=>by subst e;rw[GC]at hb;cases hb
    show (if k'=k then some w.heap.size else c.bl k')=some b;rw[if_neg this];exact hb,fun _ _ _ h=>h⟩
  refine h.new_chunk hk uF hx hle (fun k' bH=>if_neg bH) (fun _ _=>rfl) (fun b=>?_) (fun b hb=>?_) (fun ol=>?_)
  ·simp only[Cx.block,if_true,XX.injEq];exact⟨fun h=>h.imp id Eq.symm,fun h=>h.imp id Eq.symm⟩
  ·simp only[Cx.block,if_true,XX.injEq]at hb;rw[size_alloc];omega
  ·exact .box T cells w.heap.size vs dv (jm w _) (hr.keep hle ol) h1
theorem RealC.new_row {X:Cfg}{s:FS}{a:Act}{w w':World}{c:Cx}(h:RealC X s a w c){k:Nat}(hk:s.heap k= .none)(uF:¬k < X.m)(E sz:Nat)(rows:List (List PV))(v:Value)(xs:List Value)(hx:cW w w')
 (bt:OwnV w' E sz v rows.length xs) (jg:∀b,cQ v=some b→w.heap.size≤b) (hr:bj c w rows.flatten xs) (cM:∀r∈rows,r.length=sz) (h1:∀r∈rows,∀d∈r,d.one=true):
 ∃c',RealC X {s with heap:=cz [(k,.row E sz 0 rows)] s.heap} a w' c'∧RepP c' w' (.own k 0) v:=by
 have bD:=h.chunk k;rw[hk]at bD;have sK:v.oneCell'=true:=bt.one;cases bD with
 |none GC VO=>
  have cC:(fun k' g=>if k'=k∧g=0 then some v else c.ov k' g) k 0=some v:=if_pos ⟨rfl,rfl⟩;have hle:c.le {M:=fun b=>c.M b∨cQ v=some b,bl:=c.bl,ov:=fun k' g=>if k'=k∧g=0 then some v else c.ov k' g}:=
   ⟨fun _ _ h=>h,fun k' g u hu=>by
    have:k'≠k:=fun e=>by subst e;rw[VO]at hu;cases hu
    show (if k'=k∧g=0 then some v else c.ov k' g)=some u;rw[if_neg (fun e=>this e.1)];exact hu⟩
  have cV:∀b,(Cx.block {M:=fun b=>c.M b∨cQ v=some b,bl:=c.bl,ov:=fun k' g=>if k'=k∧g=0 then some v else c.ov k' g} k (.row E sz 0 rows)=some b)↔cQ v=some b:=by
   intro b;simp[Cx.block]
  refine⟨{M:=fun b=>c.M b∨cQ v=some b,bl:=c.bl,ov:=fun k' g=>if k'=k∧g=0 then some v else c.ov k' g},?_,.own k 0 v cC sK⟩;refine h.new_chunk hk uF hx hle (fun _ _=>rfl) (fun k' bH=>?_) (fun b=>?_) (fun b hb=>?_) (fun ol=>?_)
  ·funext g;exact if_neg (fun e=>bH e.1)
  ·rw[cV b]
  ·rw[cV b]at hb;exact⟨jg b hb,bt.lt hb⟩
  ·refine .row E sz 0 rows v xs cC bt (hr.keep hle ol) cM h1 (fun g' hg=>?_);show (if k=k∧g'=0 then some v else c.ov k g')=none;rw[if_neg (by omega)];exact VO g'
theorem RealC.turn {X:Cfg}{s:FS}{a:Act}{w w':World}{c c':Cx}(h:RealC X s a w c){k:Nat}{ch:Chunk}(hle:c.le c')(VP:c'.bl k=c.bl k)(rc:∀k',k'≠k→c'.bl k'=c.bl k')(ed:∀k',k'≠k→c'.ov k'=c.ov k')
 (hos:w'.os=w.os) (ht:w'.tape=w.tape) (ho:w'.output=w.output) (hs:w.heap.size≤w'.heap.size) (GD:∀b,b < w.heap.size→c.block k (s.heap k)≠some b→w'.heap[b]? =w.heap[b]?)
 (hM:∀b,c'.M b↔(c.M b∧c.block k (s.heap k)≠some b)∨c'.block k ch=some b)
 (lu:∀b,c'.block k ch=some b→(c.block k (s.heap k)=some b∨w.heap.size≤b)∧b < w'.heap.size)
 (RG:Keep c.M w c'.M w'→ChunkOK c' w' k ch):RealC X {s with heap:=cz [(k,ch)] s.heap} a w' c':=by
 have own:∀b,c.block k (s.heap k)=some b→c.M b:=fun b hb=>(h.mu b).2 (.inr ⟨k,hb⟩);have ol:Keep c.M w c'.M w':=⟨hs,fun b hb hm=>GD b hb (fun e=>hm (own b e)),fun b hb hm=>by
  rcases(hM b).1 hm with h1|h1
  ·exact h1.1
  ·rcases(lu b h1).1 with h2|h2
   ·exact own b h2
   ·omega⟩
 have cV:∀k' ch',k'≠k→c'.block k' ch'=c.block k' ch':=by
  intro k' ch' bH;cases ch'<;>simp[Cx.block,rc k' bH,ed k' bH]
 have kf:∀k',cz [(k,ch)] s.heap k'=if k'=k then ch else s.heap k':=fun _=>rfl;have oldNe:∀k' b,k'≠k→c.block k' (s.heap k')=some b→c.block k (s.heap k)≠some b:=fun k' b bH hb e=>bH (h.apart k' k b hb e);refine⟨h.size,h.defers,⟨hos.trans h.ext.os,ht.trans h.ext.tape,ho.trans h.ext.output,Yu h.ext.size hs,fun b hb BK=>?_⟩,h.inv,h.fresh,fun b=>?_,fun k' b hb=>?_,fun k' k'' b hb hb'=>?_,fun t=>(h.env t).keep hle ol,fun k'=>?_,fun k' hk'=>⟨?_,fun g v hv=>hle.ov _ _ _ ((h.lent k' hk').2 g v hv)⟩⟩
 ·refine(GD b (Yt hb h.ext.size) (fun e=>?_)).trans (h.ext.block b hb BK);rcases(h.new k b e).1 with h1|h1
  ·exact BK h1
  ·omega
 ·rw[hM b];constructor
  ·rintro (⟨h0,bH⟩|h1)
   ·rcases(h.mu b).1 h0 with h0|⟨k',h1⟩
    ·exact .inl h0
    ·refine .inr ⟨k',?_⟩;have gz:k'≠k:=fun e=>by subst e;exact bH h1
     show c'.block k' (cz [(k,ch)] s.heap k')=_;rw[kf,if_neg gz,cV k' _ gz];exact h1
   ·refine .inr ⟨k,?_⟩;show c'.block k (cz [(k,ch)] s.heap k)=_;rw[kf,if_pos rfl];exact h1
  ·rintro (h0|⟨k',h1⟩)
   ·refine .inl ⟨(h.mu b).2 (.inl h0),fun e=>?_⟩;rcases(h.new k b e).1 with h1|h1
    ·exact(h.fresh b h0).2 h1
    ·have:=(h.fresh b h0).1;omega
   ·simp only[kf]at h1;by_cases bH:k'=k
    ·subst bH;rw[if_pos rfl]at h1;exact .inr h1
    ·rw[if_neg bH,cV k' _ bH]at h1;exact .inl ⟨(h.mu b).2 (.inr ⟨k',h1⟩),oldNe k' b bH h1⟩
 ·simp only[kf]at hb;by_cases bH:k'=k
  ·subst bH;rw[if_pos rfl]at hb;refine⟨?_,(lu b hb).2⟩;rcases(lu b hb).1 with h2|h2
   ·exact(h.new _ b h2).1
   ·exact .inr (Yu h.ext.size h2)
  ·rw[if_neg bH,cV k' _ bH]at hb;exact⟨(h.new k' b hb).1,Yt (h.new k' b hb).2 hs⟩
 ·simp only[kf]at hb hb';by_cases h1:k'=k
  ·by_cases h2:k''=k
   ·omega
   ·subst h1;rw[if_pos rfl]at hb;rw[if_neg h2,cV k'' _ h2]at hb';rcases(lu b hb).1 with h3|h3
    ·exact absurd h3 (oldNe k'' b h2 hb')
    ·have:=(h.new k'' b hb').2;omega
  ·by_cases h2:k''=k
   ·subst h2;rw[if_pos rfl]at hb';rw[if_neg h1,cV k' _ h1]at hb;rcases(lu b hb').1 with h3|h3
    ·exact absurd h3 (oldNe k' b h1 hb)
    ·have:=(h.new k' b hb).2;omega
   ·rw[if_neg h1,cV k' _ h1]at hb;rw[if_neg h2,cV k'' _ h2]at hb';exact h.apart k' k'' b hb hb'
 ·simp only[kf];by_cases bH:k'=k
  ·subst bH;rw[if_pos rfl];exact RG ol
  ·rw[if_neg bH];exact(h.chunk k').keep hle ol (fun b hb=>GD b (h.new k' b hb).2 (oldNe k' b bH hb)) (rc k' bH) (ed k' bH)
 ·by_cases bH:k'=k
  ·subst bH;exact VP.trans (h.lent k' hk').1
  ·exact(rc k' bH).trans (h.lent k' hk').1
theorem RealC.set_box {X:Cfg}{s:FS}{a:Act}{w:World}{c:Cx}(h:RealC X s a w c){k T b:Nat}{cells cells':List PV}{vs vs':List Value}(hk:s.heap k= .box T cells)(hb:c.bl k=some b)(hh:w.heap[b]? =some (.cells vs.toArray T (0,0)))
 (hr:bj c w cells' vs') (h1:∀d∈cells',d.one=true):RealC X {s with heap:=cz [(k,.box T cells')] s.heap} a (w.setRow b vs'.toArray) c:=by
 have cM:(w.setRow b vs'.toArray).heap.size=w.heap.size:=by simp[ZK]
 have bH:∀b',b'≠b→(w.setRow b vs'.toArray).heap[b']? =w.heap[b']? :=by
  intro b' hb';simp only[ZK,Y0];rw[if_neg (fun e=>hb' e.symm)]
 have cV:c.block k (s.heap k)=some b:=by rw[hk];exact hb
 refine h.turn c.le_refl rfl (fun _ _=>rfl) (fun _ _=>rfl) rfl rfl rfl (by omega) (fun b' _ hb'=>bH b' (fun e=>hb' (by rw[e];exact cV))) (fun b'=>?_) (fun b' hb'=>?_) (fun ol=>?_)
 ·show c.M b'↔(c.M b'∧c.block k (s.heap k)≠some b')∨c.bl k=some b';rw[cV,hb];constructor
  ·intro hm;by_cases e:b=b'
   ·exact .inr (by rw[e])
   ·exact .inl ⟨hm,fun h=>e (XX.inj h)⟩
  ·rintro (⟨hm,_⟩|e)
   ·exact hm
   ·exact(h.mu b').2 (.inr ⟨k,by rw[cV];exact e⟩)
 ·have e:c.bl k=some b':=hb';refine⟨.inl (by rw[cV,←hb];exact e),?_⟩;rw[cM];exact(h.new k b' (by rw[cV,←hb];exact e)).2
 ·exact .box T cells' b vs' hb (setRow_heap w b _ _ T _ hh) (hr.keep c.le_refl ol) h1
structure OneB (w w':World)(r:Option Nat):Prop where
 os:w'.os=w.os
 tape:w'.tape=w.tape
 output:w'.output=w.output
 size:w.heap.size≤w'.heap.size
 block:∀b,b < w.heap.size→r≠some b→w'.heap[b]? =w.heap[b]?
theorem RealC.set_row {X:Cfg}{s:FS}{a:Act}{w w':World}{c:Cx}(h:RealC X s a w c){k E sz g:Nat}{rows rows':List (List PV)}{v v':Value}{xs':List Value}(hk:s.heap k= .row E sz g rows)(hv:c.ov k g=some v)
 (hg:OneB w w' (cQ v)) (bt:OwnV w' E sz v' rows'.length xs') (jg:cQ v'=cQ v∨∀b,cQ v'=some b→w.heap.size≤b) (hr:bj c w rows'.flatten xs') (cM:∀r∈rows',r.length=sz)
 (h1:∀r∈rows',∀d∈r,d.one=true):
 ∃c',RealC X {s with heap:=cz [(k,.row E sz (g+1) rows')] s.heap} a w' c'∧RepP c' w' (.own k (g+1)) v':=by
 have bD:=h.chunk k;rw[hk]at bD;have sK:v'.oneCell'=true:=bt.one;cases bD with
 |row _ _ _ _ u xs hu VQ hro a0l h1o Pb=>
  rw[hv]at hu;cases hu;have cV:c.block k (s.heap k)=cQ v:=by rw[hk];simp[Cx.block,hv]
  have cC:(fun k' g'=>if k'=k∧g'=g+1 then some v' else c.ov k' g') k (g+1)=some v':=if_pos ⟨rfl,rfl⟩;have hle:c.le {M:=fun b=>(c.M b∧cQ v≠some b)∨cQ v'=some b,bl:=c.bl,ov:=fun k' g'=>if k'=k∧g'=g+1 then some v' else c.ov k' g'}:=
   ⟨fun _ _ h=>h,fun k' g' u hu=>by
    have:¬(k'=k∧g'=g+1):=by
     rintro⟨rfl,rfl⟩;rw[Pb (g+1) (by omega)]at hu;cases hu
    show (if k'=k∧g'=g+1 then some v' else c.ov k' g')=some u;rw[if_neg this];exact hu⟩
  have EP:∀b,(Cx.block {M:=fun b=>(c.M b∧cQ v≠some b)∨cQ v'=some b,bl:=c.bl,ov:=fun k' g'=>if k'=k∧g'=g+1 then some v' else c.ov k' g'} k (.row E sz (g+1) rows')=some b)↔cQ v'=some b:=by
   intro b;simp[Cx.block]
  refine⟨{M:=fun b=>(c.M b∧cQ v≠some b)∨cQ v'=some b,bl:=c.bl,ov:=fun k' g'=>if k'=k∧g'=g+1 then some v' else c.ov k' g'},?_,.own k (g+1) v' cC sK⟩;refine h.turn hle rfl (fun _ _=>rfl) (fun k' bH=>?_) hg.os hg.tape hg.output hg.size (fun b hb bH=>hg.block b hb (fun e=>bH (by rw[cV];exact e))) (fun b=>?_) (fun b hb=>?_) (fun ol=>?_)
  ·funext g';exact if_neg (fun e=>bH e.1)
  ·rw[EP,cV]
  ·rw[EP]at hb;refine⟨?_,bt.lt hb⟩;rw[cV];rcases jg with e|e
   ·exact .inl (e ▸ hb)
   ·exact .inr (e b hb)
  ·refine .row E sz (g+1) rows' v' xs' cC bt (hr.keep hle ol) cM h1 (fun g' hg'=>?_);show (if k=k∧g'=g+1 then some v' else c.ov k g')=none;rw[if_neg (by omega)];exact Pb g' (by omega)
theorem RealC.put_row {X:Cfg}{s:FS}{a:Act}{w w':World}{c:Cx}(h:RealC X s a w c){k E sz g:Nat}{rows rows':List (List PV)}{v:Value}{xs':List Value}(hk:s.heap k= .row E sz g rows)(hv:c.ov k g=some v)
 (hg:OneB w w' (cQ v)) (bt:OwnV w' E sz v rows'.length xs') (hr:bj c w rows'.flatten xs') (cM:∀r∈rows',r.length=sz) (h1:∀r∈rows',∀d∈r,d.one=true):
 RealC X {s with heap:=cz [(k,.row E sz g rows')] s.heap} a w' c:=by
 have bD:=h.chunk k;rw[hk]at bD;cases bD with
 |row _ _ _ _ u xs hu VQ hro a0l h1o Pb=>
  rw[hv]at hu;cases hu;have cV:c.block k (s.heap k)=cQ v:=by rw[hk];simp[Cx.block,hv]
  have EP:c.block k (.row E sz g rows')=cQ v:=by simp[Cx.block,hv]
  refine h.turn c.le_refl rfl (fun _ _=>rfl) (fun k' bH=>rfl) hg.os hg.tape hg.output hg.size (fun b hb bH=>hg.block b hb (fun e=>bH (by rw[cV];exact e))) (fun b=>?_) (fun b hb=>?_) (fun ol=>?_)
  ·rw[EP,cV];constructor
   ·intro hm;by_cases e:cQ v=some b
    ·exact .inr e
    ·exact .inl ⟨hm,e⟩
   ·rintro (⟨hm,_⟩|e)
    ·exact hm
    ·exact(h.mu b).2 (.inr ⟨k,by rw[cV];exact e⟩)
  ·rw[EP]at hb;exact⟨.inl (by rw[cV];exact hb),bt.lt hb⟩
  ·exact .row E sz g rows' v xs' hv bt (hr.keep c.le_refl ol) cM h1 Pb
structure TI where
 agg:Bool
 size:Nat
 bytes:Nat
 zero:List Value
 fields:List (Nat × Nat)
 elem:Option Nat
 int:Option IntKind
 kind:Nat
 mp:Option (Nat × Bool)
 arr:Option (Nat × Nat):=none
def mh (P:Program)(fs:List Field):Option (List (Nat × Nat)):=fs.mapM fun f=>(P.info? f.type).map fun i=>(f.offset,i.size)
def rz (P:Program):TypeDesc→List (Nat × Nat)
 | .struct fs=>(mh P fs.toList).getD []
 |_=>[]
def Pp:TypeDesc→Bool
 | .struct _=>true
 | .array _ _=>true
 |_=>false
def fB:TypeDesc→Option Nat
 | .slice e=>some e
 |_=>none
def Lh:TypeDesc→Option (Nat × Nat)
 | .array n e=>some (n,e)
 |_=>none
def Pq:TypeDesc→Option IntKind
 | .int k=>some k
 |_=>none
def p6:TypeDesc→Nat
 | .bool=>1
 | .string=>2
 | .pointer _=>3
 | .map _ _=>4
 | .interface _=>5
 |_=>0
def mpD (P:Program):TypeDesc→Option (Nat × Bool)
 | .map k e=>match P.underlying k,P.info? k,P.underlying e with
  |some (.int .i64),_,some (.int .i64)=>some (1,false)
  |some (.struct _),some i,some (.int .i64)=>some (i.size,true)
  |_,_,_=>none
 |_=>none
def aJ (P:Program)(t:Nat):Option TI:=
 match P.info? t,P.underlying t with
 |some i,some d=>
  match i.zero with
  |some z=>
   if z.cells.all (·.oneCell')&&(z.cells.size==i.size)then
    some {agg:=Pp d,size:=i.size,bytes:=i.bytes,zero:=z.cells.toList,fields:=rz P d,elem:=fB d,int:=Pq d,kind:=p6 d,mp:=mpD P d,arr:=Lh d}
   else none
  |none=>none
 |_,_=>none
structure TCk (P:Program)(t:Nat)(ti:TI)(i:TypeInfo)(d:TypeDesc)(z:Value):Prop where
 info:P.info? t=some i
 und:P.underlying t=some d
 zero:i.zero=some z
 zcells:z.cells.toList=ti.zero
 one:∀x∈ti.zero,x.oneCell'=true
 zsize:ti.zero.length=ti.size
 size:i.size=ti.size
 bytes:i.bytes=ti.bytes
 agg:Pp d=ti.agg
 elem:fB d=ti.elem
 int:Pq d=ti.int
 kind:p6 d=ti.kind
 mp:mpD P d=ti.mp
 arr:Lh d=ti.arr
 fields:rz P d=ti.fields
theorem gC {P:Program}{t:Nat}{ti:TI}(h:aJ P t=some ti):∃i d z,TCk P t ti i d z:=by
 unfold aJ at h;split at h
 ·rename_i i d hi hd;split at h
  ·rename_i z hz;split at h
   ·rename_i hc;simp only[Xy,beq_iff_eq]at hc;cases h;refine⟨i,d,z,hi,hd,hz,rfl,fun x hx=>?_,?_,rfl,rfl,rfl,rfl,rfl,rfl,rfl,rfl,rfl⟩
    ·exact(Array.all_eq_true_iff_forall_mem.1 hc.1) x (by simpa using hx)
    ·simpa using hc.2
   ·cases h
  ·cases h
 ·cases h
theorem zj {P:Program}{off sz:Nat}:∀{l:List Field}{pl:List (Nat × Nat)},mh P l=some pl→∀{f:Nat},pl[f]? =some (off,sz)→∃(g:Field) (j:TypeInfo),l[f]? =some g∧P.info? g.type=some j∧g.offset=off∧j.size=sz
 |[],pl,h,f,hf=>by simp[mh]at h;subst h;simp at hf
 |g::l,pl,h,f,hf=>by
  simp only[mh,List.mapM_cons,Option.bind_eq_bind,Option.pure_def]at h;cases hi:P.info? g.type with
  |none=>simp[hi]at h
  |some i=>
   cases hr:l.mapM (fun f=>(P.info? f.type).map fun i=>(f.offset,i.size))with
   |none=>simp[hi,hr]at h
   |some rest=>
    simp[hi,hr]at h;subst h;cases f with
    |zero=>simp at hf;exact⟨g,i,rfl,hi,hf.1,hf.2⟩
    |succ f=>simpa using zj (l:=l) hr (f:=f) (by simpa using hf)
theorem TCk.field {P:Program}{t:Nat}{ti:TI}{i:TypeInfo}{d:TypeDesc}{z:Value}(h:TCk P t ti i d z){f off sz:Nat}(hf:ti.fields[f]? =some (off,sz)):
 ∃(fs:Array Field) (g:Field) (j:TypeInfo),d= .struct fs∧mh P fs.toList=some ti.fields∧fs[f]? =some g∧P.info? g.type=some j∧g.offset=off∧j.size=sz:=by
 have jC:=h.fields;cases d with
 |struct fs=>
  simp only[rz]at jC;cases hm:mh P fs.toList with
  |none=>rw[hm]at jC;simp at jC;rw[jC]at hf;simp at hf
  |some pl=>
   rw[hm]at jC;simp at jC;subst jC;obtain⟨g,j,q1,q2⟩:=zj hm hf;exact⟨fs,g,j,rfl,hm,by simpa using q1,q2⟩
 |_=>simp[rz]at jC;rw[jC]at hf;simp at hf
def ev (s:FS):Operand→PV
 | .tmp t=>s.env t
 | .const v=> .d (.v v)
 | .func f=> .d (.clo f [])
 | .global _=> .any
theorem bF {X:Cfg}{s:FS}{a:Act}{w:World}{c:Cx}(h:RealC X s a w c)(x:Operand):RepP c w (ev s x) (a.eval x):=by
 cases x with
 |tmp t=>exact h.env t
 |const v=>exact .d _ _ (.v v)
 |func f=>exact .d _ _ (.clo f [] [] rfl (fun j d x h=>by simp at h))
 |«global» g=>exact .any _
theorem AJ {ops:Array Oper}{o:Oper}{s s':FS}(he:∀t∈o.looksAt ops,s'.env t=s.env t)(x:Operand)(hx:x∈o.op.operands):ev s' x=ev s x:=by
 cases x with
 |tmp t=>
  refine he t ?_;unfold Oper.looksAt;refine ZW _ ?_;rw[List.mem_filterMap];exact⟨.tmp t,by simpa using hx,rfl⟩
 |_=>rfl
theorem dJ {X:Cfg}{ops:Array Oper}{s:FS}{o:Oper}{r:Res}(hd:∀d,o.dst=some d→d < X.n)(ht:∀kc∈r.eff,kc.1∈r.touch)
 (h:∀s':FS,(∀x∈o.op.operands,ev s' x=ev s x)→(∀k∈r.touch,s'.heap k=s.heap k)→∀a w c,RealC X s' a w c→
  ∃n v w',(execOp a.eval o).run X.P w= .ok n w'∧(n= .value v∨(n= .skip∧v=undef))∧∃c',RealC X {s' with heap:=cz r.eff s'.heap} a w' c'∧RepP c' w' r.pv v):bv X ops s o r:=by
 refine⟨hd,ht,fun s' he hk a w hr K Q hK=>?_⟩;obtain⟨c,hc⟩:=hr;obtain⟨n,v,w',b9,hn,c',hc',hp⟩:=h s' (fun x hx=>AJ he x hx) hk a w c hc;have:=hK v w' ⟨c',hc'.put hp hd⟩;unfold Oper.wp;rw[b9];rcases hn with rfl|⟨rfl,rfl⟩
 ·exact this
 ·exact this
theorem aB {X:Cfg}{ops:Array Oper}{s:FS}{o:Oper}{p:PV}{touch:List Nat}(hd:∀d,o.dst=some d→d < X.n)
 (h:∀s':FS,(∀x∈o.op.operands,ev s' x=ev s x)→(∀k∈touch,s'.heap k=s.heap k)→∀a w c,RealC X s' a w c→∃v,(execOp a.eval o).run X.P w= .ok (.value v) w∧RepP c w p v):
 bv X ops s o {pv:=p,touch:=touch}:=
 dJ hd (fun _ h=>by simp at h) fun s' he hk a w c hc=>by
  obtain⟨v,b9,hp⟩:=h s' he hk a w c hc;exact⟨.value v,v,w,b9,.inl rfl,c,hc,hp⟩
section
variable {X:Cfg}{ops:Array Oper}{s:FS}{o:Oper}(hd:∀d,o.dst=some d→d < X.n)
include hd
theorem Pr {x:Operand}(ho:o.op= .move x):bv X ops s o {pv:=ev s x}:=
 aB hd fun s' he _ a w c hc=>⟨a.eval x,by simp[execOp,ho],by rw[←he x (by simp[ho,Op.operands])];exact bF hc x⟩
theorem Io {x:Operand}(ho:o.op= .assign x):bv X ops s o {pv:=ev s x}:=
 aB hd fun s' he _ a w c hc=>⟨a.eval x,by simp[execOp,ho],by rw[←he x (by simp[ho,Op.operands])];exact bF hc x⟩
omit hd in
theorem cY {s':FS}{a:Act}{w:World}{c:Cx}(hc:RealC X s' a w c){x:Operand}{v:Value}(h:ev s' x= .d (.v v)):a.eval x=v:=by
 have:=bF hc x;rw[h]at this;cases this with
 |d _ _ h=>cases h with|v=>rfl
theorem Ps {x y z:Operand}{t:Bool}(ho:o.op= .pick x y z)(hx:ev s x= .d (.v (.bool t))):bv X ops s o {pv:=if t then ev s y else ev s z}:=
 aB hd fun s' he _ a w c hc=>by
  have h1:=cY hc ((he x (by simp[ho,Op.operands])).trans hx);refine⟨if t then a.eval y else a.eval z,by simp[execOp,ho,h1,asBool],?_⟩;cases t with
  |true=>rw[if_pos rfl,if_pos rfl,←he y (by simp[ho,Op.operands])];exact bF hc y
  |false=>rw[if_neg (by simp),if_neg (by simp),←he z (by simp[ho,Op.operands])];exact bF hc z
theorem SM {t:Nat}{x:Operand}{b:Bool}(ho:o.op= .unOp .not t x)(hx:ev s x= .d (.v (.bool b))):bv X ops s o {pv:= .d (.v (.bool (!b)))}:=
 aB hd fun s' he _ a w c hc=>by
  have h1:=cY hc ((he x (by simp[ho,Op.operands])).trans hx);exact⟨.bool (!b),by simp[execOp,ho,h1,Op.unary],.d _ _ (.v _)⟩
theorem SN {t:Nat}{x:Operand}{k:IntKind}{n:Int}(ho:o.op= .unOp .neg t x)(hx:ev s x= .d (.v (.int k n))):bv X ops s o {pv:= .d (.v (.int k (k.wrap (0 - n))))}:=
 aB hd fun s' he _ a w c hc=>by
  have h1:=cY hc ((he x (by simp[ho,Op.operands])).trans hx);exact⟨.int k (k.wrap (0 - n)),by simp[execOp,ho,h1,Op.unary,Op.intArith],.d _ _ (.v _)⟩
theorem uc {x:Operand}(ho:o.op= .nilCheck x)(hx:(∃k off,ev s x= .ptr k off)∨∃cs,ev s x= .d (.ept cs)):bv X ops s o {pv:=ev s x}:=
 aB hd fun s' he _ a w c hc=>by
  have h0:=he x (by simp[ho,Op.operands]);have h1:=bF hc x;refine⟨a.eval x,?_,by rw[←h0];exact h1⟩;have:∃ad,a.eval x= .pointer (some ad):=by
   rcases hx with⟨k,off,hx⟩|⟨cs,hx⟩
   ·rw[h0,hx]at h1;generalize a.eval x=u at h1;cases h1;exact⟨_,rfl⟩
   ·rw[h0,hx]at h1;generalize a.eval x=u at h1;cases h1 with
    |d _ _ h=>cases h;exact⟨_,rfl⟩
  obtain⟨ad,h2⟩:=this;simp[execOp,ho,h2]
def AK (op:BinOp)(k:IntKind)(a b:Int):Option Value:=
 match op with
 | .add=>some (.int k (k.wrap (a+b)))
 | .sub=>some (.int k (k.wrap (a - b)))
 | .mul=>some (.int k (k.wrap (a*b)))
 | .eql=>some (.bool (a==b))
 | .neq=>some (.bool (a !=b))
 | .lss=>some (.bool (decide (a < b)))
 | .leq=>some (.bool (decide (a≤b)))
 | .gtr=>some (.bool (decide (a>b)))
 | .geq=>some (.bool (decide (a≥b)))
 | .shl=>if 0≤b then some (.int k (k.wrap (a*2 ^ min b.toNat k.bits)))else none
 | .shr=>if 0≤b then some (.int k (a.fdiv (2 ^ min b.toNat k.bits)))else none
 | .and=>some (.int k (k.wrap (BitVec.ofInt k.bits a&&& BitVec.ofInt k.bits b).toNat))
 | .or=>some (.int k (k.wrap (BitVec.ofInt k.bits a|||BitVec.ofInt k.bits b).toNat))
 | .andNot=>some (.int k (k.wrap (BitVec.ofInt k.bits a&&& ~~~BitVec.ofInt k.bits b).toNat))
 |_=>none
theorem SO {op:BinOp}{t t':Nat}{x y:Operand}{k:IntKind}{m n:Int}{r:Value}(ho:o.op= .binOp op t x y t')(hx:ev s x= .d (.v (.int k m)))(hy:ev s y= .d (.v (.int k n)))(hr:AK op k m n=some r):
 bv X ops s o {pv:= .d (.v r)}:=
 aB hd fun s' he _ a w c hc=>by
  have h1:=cY hc ((he x (by simp[ho,Op.operands])).trans hx);have h2:=cY hc ((he y (by simp[ho,Op.operands])).trans hy);refine⟨r,?_,.d _ _ (.v _)⟩;cases op<;>simp[AK]at hr
  case shl=>obtain⟨h0,rfl⟩:=hr;simp[execOp,ho,h1,h2,eqGuard,binOp,Op.shift,Int.not_lt.2 h0]
  case shr=>obtain⟨h0,rfl⟩:=hr;simp[execOp,ho,h1,h2,eqGuard,binOp,Op.shift,Int.not_lt.2 h0]
  all_goals(subst hr;simp[execOp,ho,h1,h2,eqGuard,binOp,Op.intArith,Op.intCmp,Op.intBits])
theorem zk {op:BinOp}{t t':Nat}{x y:Operand}{k:IntKind}{m n:Int}(ho:o.op= .binOp op t x y t')(hx:ev s x= .d (.v (.int k m)))(hy:ev s y= .d (.v (.int k n)))(hn:n≠0){r:Value}
 (hr:(op= .quo∧r= .int k (k.wrap (m.tdiv n)))∨(op= .rem∧r= .int k (m.tmod n))):bv X ops s o {pv:= .d (.v r)}:=
 aB hd fun s' he _ a w c hc=>by
  have h1:=cY hc ((he x (by simp[ho,Op.operands])).trans hx);have h2:=cY hc ((he y (by simp[ho,Op.operands])).trans hy);refine⟨r,?_,.d _ _ (.v _)⟩;rcases hr with⟨rfl,rfl⟩|⟨rfl,rfl⟩<;>simp[execOp,ho,h1,h2,eqGuard,binOp,Op.intDiv,hn]
omit hd in
theorem vL {P:Program}{t:Nat}(h:P.underlying t=some .bool)(m n:Bool)(w:World):(Op.equal t (.bool m) (.bool n)).run P w= .ok (m==n) w:=by
 unfold Op.equal;show (Op.equalIn (9999+1) t (.bool m) (.bool n)).run P w=_;rw[Op.equalIn,Sem.run_bind,run_underlying h];rfl
theorem zl {ti:TI}{op:BinOp}{t t':Nat}{x y:Operand}{m n:Bool}{r:Bool}(ho:o.op= .binOp op t x y t')(ht:aJ X.P t=some ti)(hb:ti.kind=1)(hx:ev s x= .d (.v (.bool m)))(hy:ev s y= .d (.v (.bool n)))(hr:(op= .eql∧r=(m==n))∨(op= .neq∧r=(m !=n))):
 bv X ops s o {pv:= .d (.v (.bool r))}:=
 aB hd fun s' he _ a w c hc=>by
  have h1:=cY hc ((he x (by simp[ho,Op.operands])).trans hx);have h2:=cY hc ((he y (by simp[ho,Op.operands])).trans hy);obtain⟨i,d,z,tk⟩:=gC ht;have hd':d= .bool:=by
   have:=tk.kind;rw[hb]at this;cases d<;>simp[p6]at this;rfl
  subst hd';refine⟨.bool r,?_,.d _ _ (.v _)⟩;rcases hr with⟨rfl,rfl⟩|⟨rfl,rfl⟩<;>simp[execOp,ho,h1,h2,eqGuard,binOp,vL tk.und,bne]
def Ch (P:Program)(t n:Nat):Prop:=∀(w:World) (xs ys:List Int) (x y:Operand) (op:BinOp),xs.length=n→ys.length=n→op= .eql∨op= .neq→
 (do eqGuard op t x y (.agg (xs.map (Value.int .i64)).toArray) (.agg (ys.map (Value.int .i64)).toArray);binOp op t (.agg (xs.map (Value.int .i64)).toArray) (.agg (ys.map (Value.int .i64)).toArray):Sem Value).run P w= .ok (.bool (if op= .eql then xs==ys else xs !=ys)) w
def p7:List D→Option (List Int)
 |[]=>some []
 | .v (.int .i64 n)::l=>(p7 l).map (n:: ·)
 |_=>none
omit hd in
theorem rA {M:Nat→Prop}{w:World}:∀{ds:List D}{vs:List Value}{xs:List Int},co M w ds vs→p7 ds=some xs→vs=xs.map (Value.int .i64)
 |[],[],xs,_,h=>by cases h;rfl
 |[],_::_,xs,h,_=>by have:=h.1;simp at this
 |d::ds,[],xs,h,_=>by have:=h.1;simp at this
 |d::ds,v::vs,xs,h,hx=>by
  have h0:=h.2 0 d v rfl rfl;have hr:co M w ds vs:=⟨by simpa using h.1,fun j a b h1 h2=>h.2 (j+1) a b (by simpa using h1) (by simpa using h2)⟩;unfold p7 at hx;split at hx
  ·rename_i heq;cases heq
  ·rename_i n l heq;cases heq;cases h0;cases hl:p7 ds with
   |none=>rw[hl]at hx;cases hx
   |some ys=>
    rw[hl]at hx;cases hx;rw[rA hr hl];rfl
  ·cases hx
theorem Ci {op:BinOp}{t t' n:Nat}{x y:Operand}{ds es:List D}{xs ys:List Int}(ho:o.op= .binOp op t x y t')(hq:Ch X.P t n)(l9:op= .eql∨op= .neq)(hx:ev s x= .d (.agg ds))(hy:ev s y= .d (.agg es))
 (h1:p7 ds=some xs) (h2:p7 es=some ys) (h3:xs.length=n) (h4:ys.length=n):bv X ops s o {pv:= .d (.v (.bool (if op= .eql then xs==ys else xs !=ys)))}:=
 aB hd fun s' he _ a w c hc=>by
  have e1:=bF hc x;have e2:=bF hc y;rw[he x (by simp[ho,Op.operands]),hx]at e1;rw[he y (by simp[ho,Op.operands]),hy]at e2;refine⟨_,?_,.d _ _ (.v _)⟩;generalize hu:a.eval x=u at e1;generalize hv:a.eval y=v at e2;cases e1 with
  |d _ _ e1=>
   cases e2 with
   |d _ _ e2=>
    cases e1 with
    |agg _ vs hl _ aY=>
     cases e2 with
     |agg _ vs' hl' _ pm=>
      have g1:=rA (xs:=xs) ⟨hl,aY⟩ h1;have g2:=rA (xs:=ys) ⟨hl',pm⟩ h2;subst g1;subst g2;have:=hq w xs ys x y op h3 h4 l9;simp only[execOp,ho,hu,hv];rw[Sem.run_bind,this];rfl
theorem Li {t f off sz:Nat}{x:Operand}{ds:List D}{ti:TI}(ho:o.op= .fieldAddr t x f)(ht:aJ X.P t=some ti)(hf:ti.fields[f]? =some (off,sz))(hs:sz≠0)(hx:ev s x= .d (.ept ds)):
 bv X ops s o {pv:= .d (.ept (ds.drop off))}:=
 aB hd fun s' he _ a w c hc=>by
  have e1:=bF hc x;rw[he x (by simp[ho,Op.operands]),hx]at e1;generalize hu:a.eval x=u at e1;cases e1 with
  |d _ _ e1=>
   cases e1 with
   |ept _ b o' fv hM hb h1 bY aY=>
    have b9:((execOp a.eval o).run X.P w)= .ok (.value (.pointer (some ⟨b,o'+off,none⟩))) w:=by
     obtain⟨i,d,z,tk⟩:=gC ht;obtain⟨fs,g,j,rfl,-,q1,q2,q3,q4⟩:=tk.field hf;have VR:j.size≠0:=by omega
     simp[execOp,ho,hu,Instr.fieldAt,run_underlying tk.und,q1,Instr.sureAddr,fieldPlace,sizeOf,typeInfo,q2,VR,q3,Addr.add_lit]
    refine⟨_,b9,.d _ _ (.ept _ b (o'+off) (fun j=>fv (off+j)) hM hb (fun d hd=>h1 d (Yb hd)) (fun j hj=>?_) (fun j d hj=>?_))⟩
    ·rw[Zd];exact bY (off+j) (by rw[XS]at hj;omega)
    ·exact aY (off+j) d (by rwa [Yk]at hj)
end
def av {α:Type}(l:List α)(off:Nat)(xs:List α):List α:=l.take off++xs++l.drop (off+xs.length)
theorem gH {α:Type}{l xs:List α}{off:Nat}(h:off+xs.length≤l.length)(k:Nat):(av l off xs)[k]? =if off≤k∧k < off+xs.length then xs[k - off]? else l[k]? :=by
 unfold av;have h1:(l.take off).length=off:=by rw[Xp];omega
 by_cases hk:k < off
 ·rw[XT,X5 (by omega),if_neg (by omega),XQ hk]
 ·by_cases mX:k < off+xs.length
  ·rw[XT,XP (by omega),h1,X5 (by omega),if_pos (by omega)]
  ·rw[XP (by rw[Xt,h1];omega),Xt,h1,Yk,if_neg (by omega)];congr 1;omega
theorem aR {α:Type}{l xs:List α}{off:Nat}(h:off+xs.length≤l.length):(av l off xs).length=l.length:=by
 simp only[av,Xt,Xp,XS];omega
def pt (off:Nat)(l:List Value)(i:Nat)(cs:Array Value):Array Value:=(l.zipIdx i).foldl (fun cs (c,j)=>cs.setIfInBounds (off+j) c) cs
theorem ud (off:Nat):∀(l:List Value) (i:Nat) (cs:Array Value) (k:Nat),off+i+l.length≤cs.size→(pt off l i cs)[k]? =if off+i≤k∧k < off+i+l.length then l[k - (off+i)]? else cs[k]?
 |[],i,cs,k,_=>by rw[if_neg (by simp)];rfl
 |v::l,i,cs,k,h=>by
  have h':off+i < cs.size:=by simp at h;omega
  have:=ud off l (i+1) (cs.setIfInBounds (off+i) v) k (by simp at h ⊢;omega);have e:pt off (v::l) i cs=pt off l (i+1) (cs.setIfInBounds (off+i) v):=by simp[pt,List.zipIdx_cons]
  rw[e,this];by_cases hk:k=off+i
  ·subst hk;rw[if_neg (by omega),if_pos ⟨XC _,by simp⟩];simp[h']
  ·rw[_d (fun e=>hk e.symm)];by_cases mX:off+(i+1)≤k∧k < off+(i+1)+l.length
   ·rw[if_pos mX,if_pos ⟨by omega,by simp;omega⟩];rw[show k - (off+i)=(k - (off+(i+1)))+1 by omega,YJ]
   ·rw[if_neg mX,if_neg (by simp;omega)]
theorem AL (off:Nat)(l:List Value)(cs:Array Value)(h:off+l.length≤cs.size):(pt off l 0 cs).toList=av cs.toList off l:=by
 apply Yh;intro k;rw[gH (by simpa using h),X2,ud off l 0 cs k (by simpa using h)];simp
theorem zm (place:Nat→Option (Nat × Nat))(cells:Array Value)(i off size:Nat)(v:Value)(rest:List (Nat × Value))(hp:place i=some (off,size))(hs:v.cells.size=size)(ho:off+size≤cells.size):
 Instr.fill place cells ((i,v)::rest)=Instr.fill place (av cells.toList off v.cells.toList).toArray rest:=by
 have e:(v.cells.zipIdx.foldl (fun cs (c,j)=>cs.setIfInBounds (off+j) c) cells)=(av cells.toList off v.cells.toList).toArray:=by
  have h1:=AL off v.cells.toList cells (by simp;omega);rw[←h1,_g];unfold pt;rw[←Array.foldl_toList,Array.toList_zipIdx]
 rw[Instr.fill];simp only[hp];rw[if_neg (by simp[hs];omega),e]
def cN:PV→List PV
 | .d (.agg ds)=>ds.map .d
 | .agg ps=>ps
 |p=>[p]
def zn:PV→Bool
 | .d (.agg _)=>true
 | .agg _=>true
 |p=>p.one
theorem bj.one {c:Cx}{w:World}{ds:List PV}{vs:List Value}(h:bj c w ds vs)(h1:∀d∈ds,d.one=true):∀x∈vs,x.oneCell'=true:=by
 intro x hx;obtain⟨j,hj,e⟩:=X9 hx;have hj':j < ds.length:=by rw[h.1];exact hj
 exact(h.2 j ds[j] x (Xj hj') (by rw[←e];exact Xj hj)).one (h1 _ (Ym hj'))
theorem co.one {M:Nat→Prop}{w:World}{ds:List D}{vs:List Value}(h:co M w ds vs)(h1:∀d∈ds,d.one=true):∀x∈vs,x.oneCell'=true:=by
 intro x hx;obtain⟨j,hj,e⟩:=X9 hx;have hj':j < ds.length:=by rw[h.1];exact hj
 exact(h.2 j ds[j] x (Xj hj') (by rw[←e];exact Xj hj)).one (h1 _ (Ym hj'))
theorem Ip {v:Value}(h:v.oneCell'=true):v.cells=#[v]:=by
 cases v<;>first|rfl|cases h
theorem kj {c:Cx}{w:World}{p:PV}{v:Value}(h:RepP c w p v)(cC:zn p=true):bj c w (cN p) v.cells.toList∧∀d∈cN p,d.one=true:=by
 have single:p.one=true→cN p=[p]→bj c w (cN p) v.cells.toList∧∀d∈cN p,d.one=true:=by
  intro h1 e;rw[e,Ip (h.one h1)];refine⟨⟨rfl,fun j d x hj hx=>?_⟩,fun d hd=>by simp at hd;subst hd;exact h1⟩;cases j with
  |zero=>simp at hj hx;subst hj;subst hx;exact h
  |succ j=>simp at hj
 cases p with
 |d x=>
  cases x with
  |agg ds=>
   cases h with
   |d _ _ h=>
    cases h with
    |agg _ vs hl h1 aY=>
     refine⟨⟨by simpa[cN,Value.cells]using hl,fun j d x hj hx=>?_⟩,fun d hd=>?_⟩
     ·simp only[cN,XA,XG]at hj;obtain⟨y,hy,rfl⟩:=hj;exact .d _ _ (aY j y x hy (by simpa[Value.cells]using hx))
     ·simp only[cN,XH]at hd;obtain⟨y,hy,rfl⟩:=hd;exact h1 y hy
  |tup ds=>simp[zn,PV.one,D.one]at cC
  |_=>exact single cC rfl
 |any=>simp[zn,PV.one]at cC
 |tup=>simp[zn,PV.one]at cC
 |agg ps=>
  cases h with
  |agg _ vs hl h1 aY=>exact⟨⟨by simpa[cN,Value.cells]using hl,fun j d x hj hx=>aY j d x hj (by simpa[Value.cells]using hx)⟩,h1⟩
 |_=>exact single cC rfl
theorem mi {c:Cx}{w:World}{ds es:List PV}{vs us:List Value}{off:Nat}(h:bj c w ds vs)(g:bj c w es us)(ho:off+es.length≤ds.length):bj c w (av ds off es) (av vs off us):=by
 have ho':off+us.length≤vs.length:=by rw[←g.1,←h.1];exact ho
 refine⟨by rw[aR ho,aR ho',h.1],fun j d x hj hx=>?_⟩;rw[gH ho]at hj;rw[gH ho',←g.1]at hx;by_cases hc:off≤j∧j < off+es.length
 ·rw[if_pos hc]at hj hx;exact g.2 _ d x hj hx
 ·rw[if_neg hc]at hj hx;exact h.2 _ d x hj hx
theorem kk {α:Type}{l xs:List α}{off:Nat}{d:α}(h:d∈av l off xs):d∈l∨d∈xs:=by
 simp only[av,X4]at h;rcases h with (h|h)|h
 ·exact .inl (Yc h)
 ·exact .inr h
 ·exact .inl (Yb h)
theorem GY {M:Nat→Prop}{w:World}(vs:List Value):co M w (vs.map .v) vs:=⟨by simp,fun j d x hj hx=>by
 simp only[XA,hx,Yg,XX.injEq]at hj;subst hj;exact .v x⟩
theorem pu {c:Cx}{w:World}{ds:List D}{vs:List Value}(h:co c.M w ds vs):bj c w (ds.map .d) vs:=⟨by simpa using h.1,fun j d x hj hx=>by
 simp only[XA,XG]at hj;obtain⟨y,hy,rfl⟩:=hj;exact .d _ _ (h.2 j y x hy hx)⟩
def vM:List PV→Option (List D)
 |[]=>some []
 | .d x::l=>(vM l).map (x:: ·)
 |_=>none
theorem rB:∀{l:List PV}{ds:List D},vM l=some ds→l=ds.map .d
 |[],ds,h=>by simp[vM]at h;subst h;rfl
 |p::l,ds,h=>by
  unfold vM at h;split at h
  ·rename_i heq;cases heq
  ·rename_i x l' heq;cases heq;cases hl:vM l with
   |none=>rw[hl]at h;cases h
   |some es=>
    rw[hl]at h;cases h;rw[rB hl];rfl
  ·cases h
def sS (l:List PV):PV:=match vM l with|some ds=> .d (.agg ds)|none=> .agg l
def Lj (l:List PV):PV:=match vM l with|some ds=> .d (.tup ds)|none=> .tup l
theorem vN {c:Cx}{w:World}{ds:List D}{vs:List Value}(h:bj c w (ds.map .d) vs):co c.M w ds vs:=⟨by simpa using h.1,fun j d x hj hx=>by
 have:=h.2 j (.d d) x (by rw[XA,hj];rfl) hx;cases this with|d _ _ h=>exact h⟩
theorem rC {c:Cx}{w:World}{l:List PV}{vs:List Value}(h:bj c w l vs)(h1:∀d∈l,d.one=true):RepP c w (sS l) (.agg vs.toArray):=by
 unfold sS;split
 ·rename_i ds dI;have e:=rB dI;subst e;have:=vN h;exact .d _ _ (.agg ds vs this.1 (fun d hd=>h1 (.d d) (Za hd)) this.2)
 ·exact .agg l vs h.1 h1 h.2
theorem Lk {c:Cx}{w:World}{l:List PV}{vs:List Value}(h:bj c w l vs):RepP c w (Lj l) (.tuple vs.toArray):=by
 unfold Lj;split
 ·rename_i ds dI;have e:=rB dI;subst e;have:=vN h;exact .d _ _ (.tup ds vs this.1 this.2)
 ·exact .tup l vs h.1 h.2
def p8 {α:Type}(pl:List (Nat × Nat)):List α→List (Nat × List α)→Option (List α)
 |cells,[]=>some cells
 |cells,(i,xs)::rest=>
  match pl[i]? with
  |none=>none
  |some (off,size)=>if xs.length=size∧off+size≤cells.length then p8 pl (av cells off xs) rest else none
theorem Cj {c:Cx}{w:World}(pl:List (Nat × Nat))(place:Nat→Option (Nat × Nat))(oa:∀i p,pl[i]? =some p→place i=some p):∀(pd:List (Nat × List PV)) (pv:List (Nat × Value)) (cells:List PV) (vs:List Value) (out:List PV),bj c w cells vs→
 pd.map (·.1)=pv.map (·.1)→(∀(j:Nat) (d:Nat × List PV) (x:Nat × Value),pd[j]? =some d→pv[j]? =some x→bj c w d.2 x.2.cells.toList)→p8 pl cells pd=some out→(∀d∈cells,d.one=true)→(∀q∈pd,∀d∈q.2,d.one=true)→
 ∃vs':List Value,Instr.fill place vs.toArray pv=some vs'.toArray∧bj c w out vs'∧(∀d∈out,d.one=true)∧out.length=cells.length
 |[],[],cells,vs,out,h,_,_,hf,h1,_=>by
  simp[p8]at hf;subst hf;exact⟨vs,rfl,h,h1,rfl⟩
 |[],_::_,_,_,_,_,hm,_,_,_,_=>by simp at hm
 |_::_,[],_,_,_,_,hm,_,_,_,_=>by simp at hm
 |(i,xs)::pd,(i',v)::pv,cells,vs,out,h,hm,hr,hf,h1,h2=>by
  simp only[Xm,List.cons.injEq]at hm;obtain⟨rfl,hm⟩:=hm;have hx:=hr 0 (i,xs) (i,v) rfl rfl;unfold p8 at hf;split at hf
  ·cases hf
  ·rename_i off size hp;split at hf
   ·rename_i hc;have sy:v.cells.size=size:=by have:=hx.1;simp at this;omega
    have aT:off+xs.length≤cells.length:=by omega
    rw[zm place vs.toArray i off size v pv (oa i _ hp) sy (by have:=h.1;simp;omega)];obtain⟨vs',q1,q2,q3,q4⟩:=Cj pl place oa pd pv (av cells off xs) (av vs off v.cells.toList) out (mi h hx aT) hm (fun j d x hj hx=>hr (j+1) d x (by simpa using hj) (by simpa using hx)) hf
     (fun d hd=>(kk hd).elim (h1 d) (h2 (i,xs) (by simp) d)) (fun q hq=>h2 q (by simp[hq]))
    exact⟨vs',q1,q2,q3,by rw[q4,aR aT]⟩
   ·cases hf
theorem bS {c:Cx}{w:World}{d:D}{v:Value}(h:RepP c w (.d d) v):RepD c.M w d v:=by
 cases h with|d _ _ h=>exact h
theorem cr {α:Type}{sz:Nat}:∀{rows:List (List α)},(∀r∈rows,r.length=sz)→∀i j,j < sz→rows.flatten[i*sz+j]? =(rows[i]?).bind (·[j]?)
 |[],_,i,j,_=>by simp
 |r::rows,h,0,j,hj=>by
  rw[YE,X5 (by rw[h r (by simp)];omega)];simp
 |r::rows,h,i+1,j,hj=>by
  have hr:=h r (by simp);rw[YE,XP (by rw[hr,YI];omega),hr,show (i+1)*sz+j - sz=i*sz+j by rw[YI];omega,cr (fun r hr=>h r (by simp[hr])) i j hj];simp
section
variable {X:Cfg}{ops:Array Oper}{s:FS}{o:Oper}(hd:∀d,o.dst=some d→d < X.n)
include hd
theorem Ck {t f off sz k o':Nat}{x:Operand}{ti:TI}(ho:o.op= .fieldAddr t x f)(ht:aJ X.P t=some ti)(hf:ti.fields[f]? =some (off,sz))(hs:sz≠0)(hx:ev s x= .ptr k o'):
 bv X ops s o {pv:= .ptr k (o'+off)}:=
 aB hd fun s' he _ a w c hc=>by
  have e1:=bF hc x;rw[he x (by simp[ho,Op.operands]),hx]at e1;generalize hu:a.eval x=u at e1;cases e1 with
  |ptr _ _ b hb=>
   obtain⟨i,d,z,tk⟩:=gC ht;obtain⟨fs,g,j,rfl,-,q1,q2,q3,q4⟩:=tk.field hf;have VR:j.size≠0:=by omega
   exact⟨.pointer (some ⟨b,o'+off,none⟩),by simp[execOp,ho,hu,Instr.fieldAt,run_underlying tk.und,q1,Instr.sureAddr,fieldPlace,sizeOf,typeInfo,q2,VR,q3,Addr.add_lit],.ptr k _ b hb⟩
omit hd in
theorem nc {P:Program}{t:Nat}{ti:TI}(ht:aJ P t=some ti)(w:World)(b off:Nat)(cs:List Value)(hl:cs.length=ti.size)(ly:∀j v,cs[j]? =some v→w.cell? ⟨b,off+j,none⟩=some v)(h0:ti.agg=false→∃v,cs=[v]):
 (Instr.loadAt t (.pointer (some ⟨b,off,none⟩))).run P w= .ok (if ti.agg then .agg cs.toArray else cs.headD undef) w:=by
 obtain⟨i,d,z,tk⟩:=gC ht;have Kh:(isAgg t).run P w= .ok ti.agg w:=by
  unfold isAgg;rw[Sem.run_bind,run_underlying tk.und w,←tk.agg];cases d<;>simp[Pp]
 have bY:∀j v,cs[j]? =some v→w.cell? ((⟨b,off,none⟩:Addr).add j)=some v:=fun j v hv=>by rw[Addr.add_lit];exact ly j v hv
 cases hg:ti.agg with
 |true=>
  have hl':=run_loadCells_list (P:=P) w ⟨b,off,none⟩ cs bY;rw[hl,←tk.size]at hl';rw[hg]at Kh;simp[Instr.loadAt,Instr.sureAddr,loadVar,Sem.run_bind,Kh,sizeOf,typeInfo,tk.info,hl']
 |false=>
  obtain⟨v,rfl⟩:=h0 hg;rw[hg]at Kh;have:=ly 0 v rfl;simp only[X0]at this;simp[Instr.loadAt,Instr.sureAddr,loadVar,Sem.run_bind,Kh,this]
theorem Cl {t:Nat}{x:Operand}{ti:TI}{ds:List D}{p:D}(ho:o.op= .load t x)(ht:aJ X.P t=some ti)(hx:ev s x= .d (.ept ds))(cM:ti.size≤ds.length)(hp:(ti.agg=true∧p= .agg (ds.take ti.size))∨(ti.agg=false∧ti.size=1∧ds[0]? =some p)):
 bv X ops s o {pv:= .d p}:=
 aB hd fun s' he _ a w c hc=>by
  have e1:=bF hc x;rw[he x (by simp[ho,Op.operands]),hx]at e1;generalize hu:a.eval x=u at e1;cases e1 with
  |d _ _ e1=>
   cases e1 with
   |ept _ b off f hM hb h1 bY aY=>
    have b9:=nc ht w b off ((X3 ti.size).map f) (by simp) (fun j v hj=>by
     simp only[XA,XG]at hj;obtain⟨y,hy,rfl⟩:=hj;have:=Z2 (n:=ti.size) (i:=j);have hj':j < ti.size:=by
      rcases XO j ti.size with h|h
      ·exact h
      ·rw[XN (by simpa using h)]at hy;cases hy
     rw[Z2 hj']at hy;cases hy;exact bY j (by omega))
    rcases hp with⟨pQ,rfl⟩|⟨pQ,xT,hp⟩
    ·refine⟨.agg ((X3 ti.size).map f).toArray,?_,.d _ _ (.agg _ _ (by simp;omega) (fun d hd=>h1 d (Yc hd)) (fun j d v hj hv=>?_))⟩
     ·have:=b9 (fun h=>by rw[pQ]at h;cases h);rw[pQ,if_pos rfl]at this;simp only[execOp,ho,hu];rw[Sem.run_bind,this];rfl
     ·rw[Zk]at hj;split at hj
      ·rename_i hlt;simp only[XA,Z2 hlt,Yg,XX.injEq]at hv;subst hv;exact aY j d hj
      ·cases hj
    ·refine⟨f 0,?_,.d _ _ (aY 0 p hp)⟩;have:=b9 (fun _=>⟨f 0,by rw[xT];rfl⟩);rw[pQ,xT]at this;simp only[execOp,ho,hu];rw[Sem.run_bind,this];rfl
omit hd in
theorem ek {α:Type}{l:List α}{off n j:Nat}{x:α}(h:((l.drop off).take n)[j]? =some x):j < n∧l[off+j]? =some x:=by
 rw[Zk]at h;split at h
 ·rename_i hlt;rw[Yk]at h;exact⟨hlt,h⟩
 ·cases h
omit hd in
theorem bj.part {c:Cx}{w:World}{l:List PV}{vs:List Value}(h:bj c w l vs)(off n:Nat):bj c w ((l.drop off).take n) ((vs.drop off).take n):=
 ⟨by rw[Xp,Xp,XS,XS,h.1],fun j d x hj hx=>h.2 _ d x (ek hj).2 (ek hx).2⟩
theorem Cm {t k off T:Nat}{x:Operand}{ti:TI}{cells:List PV}{p:PV}(ho:o.op= .load t x)(ht:aJ X.P t=some ti)(hx:ev s x= .ptr k off)(hk:s.heap k= .box T cells)(cM:off+ti.size≤cells.length)
 (hp:(ti.agg=true∧p=sS ((cells.drop off).take ti.size))∨(ti.agg=false∧ti.size=1∧cells[off]? =some p)):bv X ops s o {pv:=p,touch:=[k]}:=
 aB hd fun s' he gz a w c hc=>by
  have e1:=bF hc x;rw[he x (by simp[ho,Op.operands]),hx]at e1;generalize hu:a.eval x=u at e1;have bD:=hc.chunk k;rw[gz k (by simp),hk]at bD;cases e1 with
  |ptr _ _ b hb=>
   cases bD with
   |box _ _ b' vs hb' hh hr h1=>
    rw[hb]at hb';cases hb';have Sn:vs.length=cells.length:=hr.1.symm;have b9:=nc ht w b off ((vs.drop off).take ti.size) (by rw[Xp,XS];omega) (fun j v hj=>by
     simp[YQ,hh,(ek hj).2])
    rcases hp with⟨pQ,rfl⟩|⟨pQ,xT,hp⟩
    ·refine⟨.agg ((vs.drop off).take ti.size).toArray,?_,rC (hr.part off ti.size) (fun d hd=>h1 d (Yb (Yc hd)))⟩;have:=b9 (fun h=>by rw[pQ]at h;cases h);rw[pQ,if_pos rfl]at this;simp only[execOp,ho,hu];rw[Sem.run_bind,this];rfl
    ·obtain⟨v,hv⟩:∃v,vs[off]? =some v:=⟨vs[off]'(by omega),Xj _⟩;have di:(vs.drop off).take ti.size=[v]:=by
      rw[xT,YV (by omega)];simp only[ZI,YA];rw[Xj (by omega)]at hv;simpa using hv
     refine⟨v,?_,hr.2 off p v hp hv⟩;have:=b9 (fun _=>⟨v,di⟩);rw[pQ,di]at this;simp only[execOp,ho,hu];rw[Sem.run_bind,this];rfl
theorem Ll {t e sz:Nat}{x y:Operand}{ti te:TI}{rows:List (List D)}{row:List D}{kd:IntKind}{n:Int}(ho:o.op= .indexAddr t x y)(ht:aJ X.P t=some ti)(he':ti.elem=some e)(fT:aJ X.P e=some te)(cM:te.size=sz)
 (hx:ev s x= .d (.sl sz rows)) (hy:ev s y= .d (.v (.int kd n))) (hn:0≤n) (bO:rows[n.toNat]? =some row):bv X ops s o {pv:= .d (.ept row)}:=
 aB hd fun s' he _ a w c hc=>by
  have e1:=bF hc x;rw[he x (by simp[ho,Op.operands]),hx]at e1;have e2:=cY hc ((he y (by simp[ho,Op.operands])).trans hy);generalize hu:a.eval x=u at e1;have hlt:n.toNat < rows.length:=(Xo.1 bO).1;have e1:=bS e1;cases e1 with
  |nil=>simp at hlt
  |sl _ _ b off cap f hM hb hc' hm hr h1 bY aY=>
   obtain⟨i,d,z,tk⟩:=gC ht;obtain⟨ie,de,ze,tke⟩:=gC fT;have jP:d= .slice e:=by
    have:=tk.elem;rw[he']at this;cases d<;>simp[fB]at this;rw[this]
   subst jP;have sD:0≤n∧n < (rows.length:Int):=⟨hn,by omega⟩;have Aw:row.length=sz:=hr row (Xl bO);refine⟨.pointer (some ⟨b,off+n.toNat*sz,none⟩),?_,.d _ _ (.ept row b _ (fun j=>f n.toNat j) hM hb (fun d hd=>h1 row (Xl bO) d hd) (fun j hj=>bY _ j hlt (by omega)) (fun j d hj=>aY _ j row d bO hj))⟩;simp[execOp,ho,hu,e2,Instr.indexAt,asIntOf,run_underlying tk.und,sD,sizeOf,typeInfo,tke.info,tke.size,cM,Addr.add_lit]
theorem Lp {t ty:Nat}{x:Operand}{e:Nat}{ti:TI}{d:D}{n:Nat}(ho:o.op= .call {callee:= .builtin .len,args:=#[x],argTypes:=#[t]})(ht:aJ X.P t=some ti)(he':ti.elem=some e)(hx:ev s x= .d d)
 (hn:(∃sz rows,d= .sl sz rows∧n=rows.length)∨(d= .v (.slice none 0 0)∧n=0)):bv X ops s o {pv:= .d (.v (.int .i64 n))}:=
 aB hd fun s' he _ a w c hc=>by
  have e1:=bF hc x;rw[he x (by simp[ho,Op.operands,Call.operands]),hx]at e1;generalize hu:a.eval x=u at e1;obtain⟨i,dd,z,tk⟩:=gC ht;have jP:dd= .slice e:=by
   have:=tk.elem;rw[he']at this;cases dd<;>simp[fB]at this;rw[this]
  subst jP;have BM:∃ao cap,u= .slice ao n cap:=by
   have e1:=bS e1;rcases hn with⟨sz,rows,rfl,rfl⟩|⟨rfl,rfl⟩
   ·cases e1 with
    |nil _ ao cap=>exact⟨ao,cap,rfl⟩
    |sl _ _ b off cap=>exact⟨_,cap,rfl⟩
   ·cases e1;exact⟨none,0,rfl⟩
  obtain⟨ao,cap,rfl⟩:=BM;refine⟨.int .i64 n,?_,.d _ _ (.v _)⟩;simp[execOp,ho,hu,resolve,invoke,builtin,Builtin.len_,run_underlying tk.und,goInt]
theorem Fm {x:Operand}{i:Nat}{ds:List D}{d:D}(ho:o.op= .extract x i)(hx:ev s x= .d (.tup ds))(hi:ds[i]? =some d):bv X ops s o {pv:= .d d}:=
 aB hd fun s' he _ a w c hc=>by
  have e1:=bF hc x;rw[he x (by simp[ho,Op.operands]),hx]at e1;generalize hu:a.eval x=u at e1;have e1:=bS e1;cases e1 with
  |tup _ vs hl aY=>
   have hlt:i < vs.length:=by rw[←hl];exact(Xo.1 hi).1
   have hv:vs[i]? =some vs[i]:=Xj hlt;exact⟨vs[i],by simp[execOp,ho,hu,Instr.extract,hv],.d _ _ (aY i d _ hi hv)⟩
theorem Cn {x:Operand}{i:Nat}{ds:List PV}{d:PV}(ho:o.op= .extract x i)(hx:ev s x= .tup ds)(hi:ds[i]? =some d):bv X ops s o {pv:=d}:=
 aB hd fun s' he _ a w c hc=>by
  have e1:=bF hc x;rw[he x (by simp[ho,Op.operands]),hx]at e1;generalize hu:a.eval x=u at e1;cases e1 with
  |tup _ vs hl aY=>
   have hlt:i < vs.length:=by rw[←hl];exact(Xo.1 hi).1
   have hv:vs[i]? =some vs[i]:=Xj hlt;exact⟨vs[i],by simp[execOp,ho,hu,Instr.extract,hv],aY i d _ hi hv⟩
theorem zo {t:Nat}{pl:List (Nat × Nat)}{place:Nat→Option (Nat × Nat)}{parts:Array (Nat × Operand)}{ti:TI}{pd:List (Nat × List PV)}{out:List PV}(ho:o.op= .build t parts)(ht:aJ X.P t=some ti)(oa:∀i p,pl[i]? =some p→place i=some p)(hbt:∀ps,X.P.built t ps=Instr.fill place ti.zero.toArray ps)
 (hp:pd.length=parts.size) (hq:∀(j:Nat) (i:Nat) (x:Operand),parts[j]? =some (i,x)→pd[j]? =some (i,cN (ev s x))∧zn (ev s x)=true) (hf:p8 pl (ti.zero.map fun x=> .d (.v x)) pd=some out):
 bv X ops s o {pv:=sS out}:=
 aB hd fun s' he _ a w c hc=>by
  obtain⟨i,d,z,tk⟩:=gC ht;have Au:bj c w (ti.zero.map fun x=> .d (.v x)) ti.zero:=by
   have:=pu (c:=c) (GY (M:=c.M) (w:=w) ti.zero);rwa [Z8]at this
  have VS:∀d∈ti.zero.map (fun x=>PV.d (.v x)),d.one=true:=by
   intro d hd;obtain⟨x,hx,rfl⟩:=XH.1 hd;exact tk.one x hx
  have oc:∀(j:Nat) (d:Nat × List PV) (x:Nat × Value),pd[j]? =some d→(parts.toList.map fun(i,x)=>(i,a.eval x))[j]? =some x→d.1=x.1∧bj c w d.2 x.2.cells.toList∧∀e∈d.2,e.one=true:=by
   intro j d x hj hx;simp only[XA,X2,XG]at hx;obtain⟨⟨i,y⟩,hy,rfl⟩:=hx;obtain⟨h1,h3⟩:=hq j i y hy;rw[hj]at h1;cases h1;have ma:y∈o.op.operands:=by
    rw[ho];simp only[Op.operands,_m,XH];exact⟨(i,y),by simpa using ZR hy,rfl⟩
   have aY:=bF hc y;rw[he y ma]at aY;rw[←he y ma]at h3;have:=kj (bF hc y) h3;rw[he y ma]at this;exact⟨rfl,this⟩
  obtain⟨vs',q1,q2,q3,q4⟩:=Cj (c:=c) (w:=w) pl place oa pd (parts.toList.map fun(i,x)=>(i,a.eval x)) (ti.zero.map fun x=> .d (.v x)) ti.zero out Au
   (by
    apply Yh;intro j;simp only[XA];cases hj:parts[j]? with
    |none=>
     have h1:parts.size≤j:=by simpa using hj
     rw[XN (by omega)];simp[hj]
    |some ix=>
     obtain⟨i,x⟩:=ix;obtain⟨h1,-⟩:=hq j i x hj;simp[hj,h1])
   (fun j d x h1 h2=>(oc j d x h1 h2).2.1) hf VS
   (fun q hq' e he'=>by
    obtain⟨j,hj,hjq⟩:=X9 hq';have hjs:j < parts.toList.length:=by simpa using hp ▸ hj
    exact(oc j q _ (by rw[←hjq];exact Xj hj) (by rw[XA,Xj hjs];rfl)).2.2 e he')
  refine⟨.agg vs'.toArray,?_,rC q2 q3⟩;have hb:X.P.built t (parts.map fun(i,x)=>(i,a.eval x)).toList=some vs'.toArray:=by
   rw[hbt,F'];exact q1
  have:=run_build w t (parts.map fun(i,x)=>(i,a.eval x)) vs'.toArray hb;simp only[execOp,ho];rw[Sem.run_bind,this];rfl
theorem Lq {t:Nat}{parts:Array (Nat × Operand)}{ti:TI}{pd:List (Nat × List PV)}{out:List PV}(ho:o.op= .build t parts)(ht:aJ X.P t=some ti)(fU:ti.fields≠[])
 (hp:pd.length=parts.size) (hq:∀(j:Nat) (i:Nat) (x:Operand),parts[j]? =some (i,x)→pd[j]? =some (i,cN (ev s x))∧zn (ev s x)=true) (hf:p8 ti.fields (ti.zero.map fun x=> .d (.v x)) pd=some out):
 bv X ops s o {pv:=sS out}:=
 by
  obtain⟨i,d,z,tk⟩:=gC ht;obtain⟨⟨off,sz⟩,rest,jC⟩:∃p l,ti.fields=p::l:=by
   cases h:ti.fields with
   |nil=>exact absurd h fU
   |cons p l=>exact⟨p,l,rfl⟩
  obtain⟨fs,g,j,rfl,oa,-⟩:=tk.field (f:=0) (off:=off) (sz:=sz) (by rw[jC];rfl);refine zo hd ho ht (pl:=ti.fields) (place:=(ti.fields.toArray[·]?)) (fun i p h=>by simpa using h) (fun ps=>?_) hp hq hf;unfold Program.built;have a0m:fs.toList.mapM (fun f=>(X.P.info? f.type).map fun i=>(f.offset,i.size))=some ti.fields:=oa;have:z.cells=ti.zero.toArray:=by rw[←tk.zcells]
  simp only[tk.info,tk.und,tk.zero,a0m,this]
theorem Co {g:Nat}{caps:Array Operand}(ho:o.op= .makeFunc (.func g) #[] caps):bv X ops s o {pv:= .clo g (caps.toList.map (ev s))}:=
 aB hd fun s' he _ a w c hc=>by
  refine⟨.func (.func g) #[] (caps.toList.map a.eval).toArray,?_,.clo g _ _ (by simp) (fun j d x hj hx=>?_)⟩
  ·have:(caps.toList.map a.eval).toArray=caps.map a.eval:=by rw[←F']
   rw[this];simp[execOp,ho,Instr.makeFunc]
  ·simp only[XA,X2,XG]at hj hx;obtain⟨y,hy,rfl⟩:=hj;obtain⟨y',hy',rfl⟩:=hx;rw[hy]at hy';cases hy';have:=bF hc y;rwa [he y (by rw[ho];simp[Op.operands,ZR hy])]at this
theorem Fn {t f off sz k g sz' i j:Nat}{x:Operand}{ti:TI}(ho:o.op= .fieldAddr t x f)(ht:aJ X.P t=some ti)(hf:ti.fields[f]? =some (off,sz))(hs:sz≠0)(hx:ev s x= .rp k g sz' i j):
 bv X ops s o {pv:= .rp k g sz' i (j+off)}:=
 aB hd fun s' he _ a w c hc=>by
  have e1:=bF hc x;rw[he x (by simp[ho,Op.operands]),hx]at e1;generalize hu:a.eval x=u at e1;cases e1 with
  |rp _ _ _ _ _ b n cap hb=>
   obtain⟨ii,d,z,tk⟩:=gC ht;obtain⟨fs,g,jj,rfl,-,q1,q2,q3,q4⟩:=tk.field hf;have VR:jj.size≠0:=by omega
   exact⟨.pointer (some ⟨b,i*sz'+(j+off),none⟩),by simp[execOp,ho,hu,Instr.fieldAt,run_underlying tk.und,q1,Instr.sureAddr,fieldPlace,sizeOf,typeInfo,q2,VR,q3,Addr.add_lit,Zd],.rp k _ _ _ _ b n cap hb⟩
omit hd in
theorem dV {k E sz g:Nat}{rows:List (List PV)}{c:Cx}{w:World}{b n cap:Nat}(bD:ChunkOK c w k (.row E sz g rows))(hb:c.ov k g=some (.slice (some ⟨b,0,none⟩) n cap))(bO:rows≠[]):
 ∃(cur:Array Value) (xs:List Value),w.heap[b]? =some (.cells cur E (0,0))∧bj c w rows.flatten xs∧xs.length=rows.length*sz∧(∀j,j < rows.length*sz→cur[j]? =xs[j]?)∧(∀r∈rows,r.length=sz)∧(∀r∈rows,∀d∈r,d.one=true)∧n=rows.length∧rows.length*sz≤cur.size∧
  cap≤maxLen∧n≤cap∧cur.size=cap*sz:=by
 cases bD with
 |row _ _ _ _ u xs hu bt hr cM h1 hg=>
  rw[hb]at hu;cases hu;generalize hn:rows.length=n' at bt;cases bt with
  |zero a=>exact absurd (XZ hn) bO
  |row _ _ _ cur _ h0 hh KE hm hs hl ht=>
   refine⟨cur,xs,hh,hr,hl,fun j hj=>?_,cM,h1,rfl,?_,hm,KE,hs⟩
   ·rw[←ht,XQ hj,X2]
   ·rw[hs];exact Yo sz KE
omit hd in
theorem ml {k E sz g:Nat}{rows:List (List PV)}{c:Cx}{w:World}{v:Value}(bD:ChunkOK c w k (.row E sz g rows))(ed:c.ov k g=some v)(bO:rows≠[]):∃b cap,v= .slice (some ⟨b,0,none⟩) rows.length cap:=by
 cases bD with
 |row _ _ _ _ u xs hu bt hr cM h1 hg=>
  rw[ed]at hu;cases hu;generalize hn:rows.length=n' at bt;cases bt with
  |nil=>exact absurd (XZ hn) bO
  |zero a=>exact absurd (XZ hn) bO
  |row b n cap=>exact⟨b,cap,rfl⟩
theorem Cp {t e k g sz:Nat}{x y:Operand}{ti te:TI}{rows:List (List PV)}{kd:IntKind}{n:Int}(ho:o.op= .indexAddr t x y)(ht:aJ X.P t=some ti)(he':ti.elem=some e)(fT:aJ X.P e=some te)(cM:te.size=sz)
 (hx:ev s x= .own k g) (hk:s.heap k= .row e sz g rows) (hy:ev s y= .d (.v (.int kd n))) (hn:0≤n) (hlt:n.toNat < rows.length):bv X ops s o {pv:= .rp k g sz n.toNat 0,touch:=[k]}:=
 aB hd fun s' he gz a w c hc=>by
  have e1:=bF hc x;rw[he x (by simp[ho,Op.operands]),hx]at e1;have e2:=cY hc ((he y (by simp[ho,Op.operands])).trans hy);have bD:=hc.chunk k;rw[gz k (by simp),hk]at bD;generalize hu:a.eval x=u at e1;obtain⟨i,d,z,tk⟩:=gC ht;obtain⟨ie,de,ze,tke⟩:=gC fT;have jP:d= .slice e:=by
   have:=tk.elem;rw[he']at this;cases d<;>simp[fB]at this;rw[this]
  subst jP;cases e1 with
  |own _ _ _ ed h1=>
   obtain⟨gb,cap,rfl⟩:=ml bD ed (fun e=>by rw[e]at hlt;simp at hlt);have sD:0≤n∧n < (rows.length:Int):=⟨hn,by omega⟩;refine⟨.pointer (some ⟨gb,n.toNat*sz+0,none⟩),?_,.rp k g sz _ _ gb _ cap ed⟩;simp[execOp,ho,hu,e2,Instr.indexAt,asIntOf,run_underlying tk.und,sD,sizeOf,typeInfo,tke.info,tke.size,cM,Addr.add_lit]
omit hd in
theorem Cq {sz i:Nat}{rows:List (List PV)}{row:List PV}{c:Cx}{w:World}{xs:List Value}(h:bj c w rows.flatten xs)(cM:∀r∈rows,r.length=sz)(bO:rows[i]? =some row)(hl:xs.length=rows.length*sz):bj c w row ((xs.drop (i*sz)).take sz):=by
 have hi:i < rows.length:=(Xo.1 bO).1;have Aw:row.length=sz:=cM row (Xl bO);have BO:(i+1)*sz≤rows.length*sz:=Yo sz hi;rw[YI]at BO;refine⟨by rw[Xp,XS];omega,fun j d x hj hx=>?_⟩;obtain⟨hlt,hx⟩:=ek hx;exact h.2 _ d x (by rw[cr cM i j hlt,bO];exact hj) hx
theorem zp {t k g sz i j E:Nat}{x:Operand}{ti:TI}{rows:List (List PV)}{row:List PV}{p:PV}(ho:o.op= .load t x)(ht:aJ X.P t=some ti)(hx:ev s x= .rp k g sz i j)(hk:s.heap k= .row E sz g rows)(bO:rows[i]? =some row)(cM:j+ti.size≤sz)
 (hp:(ti.agg=true∧p=sS ((row.drop j).take ti.size))∨(ti.agg=false∧ti.size=1∧row[j]? =some p)):bv X ops s o {pv:=p,touch:=[k]}:=
 aB hd fun s' he gz a w c hc=>by
  have e1:=bF hc x;rw[he x (by simp[ho,Op.operands]),hx]at e1;have bD:=hc.chunk k;rw[gz k (by simp),hk]at bD;generalize hu:a.eval x=u at e1;cases e1 with
  |rp _ _ _ _ _ b n cap hb=>
   obtain⟨cur,xs,q1,q2,q3,q4,q5,q6,q7,q8,-⟩:=dV bD hb (fun e=>by rw[e]at bO;cases bO);have hi:i < rows.length:=(Xo.1 bO).1;have Aw:row.length=sz:=q5 row (Xl bO);have BO:(i+1)*sz≤rows.length*sz:=Yo sz hi;rw[YI]at BO;have oc:=Cq q2 q5 bO q3;generalize EM:(xs.drop (i*sz)).take sz=ys at oc;have va:ys.length=sz:=by rw[←oc.1,Aw]
   have bY:∀j' v,ys[j']? =some v→cur[i*sz+j']? =some v:=by
    intro j' v hj';rw[←EM]at hj';obtain⟨hlt,hj'⟩:=ek hj';rw[q4 _ (by omega),hj']
   have b9:=nc ht w b (i*sz+j) ((ys.drop j).take ti.size) (by rw[Xp,XS];omega) (fun j' v hj'=>by
    have:=bY _ v (ek hj').2;simp only[YQ,q1];rw[Zd,this];simp)
   rcases hp with⟨pQ,rfl⟩|⟨pQ,xT,hp⟩
   ·refine⟨.agg ((ys.drop j).take ti.size).toArray,?_,rC (oc.part j ti.size) (fun d hd=>q6 row (Xl bO) d (Yb (Yc hd)))⟩;have:=b9 (fun h=>by rw[pQ]at h;cases h);rw[pQ,if_pos rfl]at this;simp only[execOp,ho,hu];rw[Sem.run_bind,this];rfl
   ·obtain⟨v,hv⟩:∃v,ys[j]? =some v:=⟨ys[j]'(by omega),Xj _⟩;have di:(ys.drop j).take ti.size=[v]:=by
     rw[xT,YV (by omega)];simp only[ZI,YA];rw[Xj (by omega)]at hv;simpa using hv
    refine⟨v,?_,oc.2 j p v hp hv⟩;have:=b9 (fun _=>⟨v,di⟩);rw[pQ,di]at this;simp only[execOp,ho,hu];rw[Sem.run_bind,this];rfl
theorem Iq {t k g sz E:Nat}{x:Operand}{e:Nat}{ti:TI}{rows:List (List PV)}(ho:o.op= .call {callee:= .builtin .len,args:=#[x],argTypes:=#[t]})(ht:aJ X.P t=some ti)(he':ti.elem=some e)(hx:ev s x= .own k g)(hk:s.heap k= .row E sz g rows):
 bv X ops s o {pv:= .d (.v (.int .i64 rows.length)),touch:=[k]}:=
 aB hd fun s' he gz a w c hc=>by
  have e1:=bF hc x;rw[he x (by simp[ho,Op.operands,Call.operands]),hx]at e1;have bD:=hc.chunk k;rw[gz k (by simp),hk]at bD;generalize hu:a.eval x=u at e1;obtain⟨i,dd,z,tk⟩:=gC ht;have jP:dd= .slice e:=by
   have:=tk.elem;rw[he']at this;cases dd<;>simp[fB]at this;rw[this]
  subst jP;cases e1 with
  |own _ _ _ ed h1=>
   cases bD with
   |row _ _ _ _ u' xs hu' bt hr RH h1 hg=>
    rw[ed]at hu';cases hu';refine⟨.int .i64 rows.length,?_,.d _ _ (.v _)⟩;generalize hn:rows.length=n' at bt;cases bt<;>simp[execOp,ho,hu,resolve,invoke,builtin,Builtin.len_,run_underlying tk.und,goInt]
end
section
variable {X:Cfg}{ops:Array Oper}{s:FS}{o:Oper}(hd:∀d,o.dst=some d→d < X.n)
include hd
theorem Ls {t nk:Nat}{ti:TI}(ho:o.op= .alloc t)(ht:aJ X.P t=some ti)(hk:s.heap nk= .none)(uF:¬nk < X.m):bv X ops s o {pv:= .ptr nk 0,eff:=[(nk,.box t (ti.zero.map fun x=> .d (.v x)))],touch:=[nk]}:=
 dJ hd (fun kc h=>by simp at h;subst h;simp) fun s' he gz a w c hc=>by
  obtain⟨i,d,z,tk⟩:=gC ht;have hr:bj c w (ti.zero.map fun x=> .d (.v x)) ti.zero:=by
   have:=pu (c:=c) (GY (M:=c.M) (w:=w) ti.zero);rwa [Z8]at this
  obtain⟨c',h1,h2⟩:=hc.new_box (k:=nk) (by rw[gz nk (by simp)];exact hk) uF t _ ti.zero hr (fun d hd=>by
   obtain⟨x,hx,rfl⟩:=XH.1 hd;exact tk.one x hx)
  refine⟨_,_,_,?_,.inl rfl,c',h1,h2⟩;have hz:z.cells=ti.zero.toArray:=by rw[←tk.zcells]
  have b9:(Instr.alloc t true (.tuple #[])).run X.P w= .ok (.pointer (some ⟨w.heap.size,0,none⟩)) (w.alloc (.cells ti.zero.toArray t)):=by
   rw[←hz];have jg:∀o:Obj,({w with heap:=w.heap.push o}:World)=w.alloc o:=fun o=>(U' w o);simp[Instr.alloc,zeroValue,typeInfo,tk.info,tk.zero,newVar,newRow,newObj,Sem.run,jg]
  simp only[execOp,ho];rw[Sem.run_bind,b9];rfl
theorem SP {t nk:Nat}{x:Operand}(ho:o.op= .box t x)(hk:s.heap nk= .none)(uF:¬nk < X.m)(hx:zn (ev s x)=true):bv X ops s o {pv:= .ptr nk 0,eff:=[(nk,.box t (cN (ev s x)))],touch:=[nk]}:=
 dJ hd (fun kc h=>by simp at h;subst h;simp) fun s' he gz a w c hc=>by
  have e1:=bF hc x;rw[he x (by simp[ho,Op.operands])]at e1;obtain⟨r1,r2⟩:=kj e1 hx;obtain⟨c',h1,h2⟩:=hc.new_box (k:=nk) (by rw[gz nk (by simp)];exact hk) uF t _ _ r1 r2;refine⟨_,_,_,?_,.inl rfl,c',h1,h2⟩;have b9:(Instr.box t (a.eval x)).run X.P w= .ok (.pointer (some ⟨w.heap.size,0,none⟩)) (w.alloc (.cells (a.eval x).cells.toList.toArray t)):=by
   have jg:∀o:Obj,({w with heap:=w.heap.push o}:World)=w.alloc o:=fun o=>(U' w o);simp[Instr.box,newVar,newRow,newObj,Sem.run,jg]
  simp only[execOp,ho];rw[Sem.run_bind,b9];rfl
theorem Lt {t k off T:Nat}{x y:Operand}{ti:TI}{cells:List PV}(ho:o.op= .store t x y)(tW:o.dst=none)(ht:aJ X.P t=some ti)(hx:ev s x= .ptr k off)(hk:s.heap k= .box T cells)(hy:zn (ev s y)=true)
 (hl:(cN (ev s y)).length=ti.size) (cM:off+ti.size≤cells.length):bv X ops s o {pv:= .any,eff:=[(k,.box T (av cells off (cN (ev s y))))],touch:=[k]}:=
 dJ hd (fun kc h=>by simp at h;subst h;simp) fun s' he gz a w c hc=>by
  have e1:=bF hc x;rw[he x (by simp[ho,Op.operands]),hx]at e1;have e2:=bF hc y;rw[he y (by simp[ho,Op.operands])]at e2;obtain⟨r1,r2⟩:=kj e2 hy;have di:=bj.one r1 r2;have hk':s'.heap k= .box T cells:=by rw[gz k (by simp)];exact hk
  have bD:=hc.chunk k;rw[hk']at bD;generalize hu:a.eval x=u at e1;cases e1 with
  |ptr _ _ b hb=>
   cases bD with
   |box _ _ b' vs hb' hh hr h1=>
    rw[hb]at hb';cases hb';obtain⟨i,d,z,tk⟩:=gC ht;have Sn:vs.length=cells.length:=hr.1.symm;have va:(a.eval y).cells.size=ti.size:=by have:=r1.1;simp at this;omega
    have jQ:=mi (off:=off) hr r1 (by omega);have h3:=hc.set_box hk' hb hh jQ (fun d hd=>(kk hd).elim (h1 d) (r2 d));refine⟨.skip,undef,_,?_,.inr ⟨rfl,rfl⟩,c,h3,.any _⟩;have fU:=run_storeCells_at X.P b off T (a.eval y).cells.toList 0 vs.toArray w hh (by simp;omega) di;have pX:(storeCells ⟨b,off,none⟩ (a.eval y).cells.toList).run X.P w= .ok () (w.setRow b (av vs off (a.eval y).cells.toList).toArray):=by
     rw[fU];simp[av]
    have b9:(Instr.storeAt t (a.eval x) (a.eval y)).run X.P w= .ok () (w.setRow b (av vs off (a.eval y).cells.toList).toArray):=by
     rw[hu];simp[Instr.storeAt,Instr.sureAddr,storeVar,sizeOf,typeInfo,tk.info,tk.size,va,pX]
    simp only[execOp,ho];rw[Sem.run_bind,b9];rfl
omit hd in
theorem cD {α:Type}{sz:Nat}:∀{rows:List (List α)},(∀r∈rows,r.length=sz)→rows.flatten.length=rows.length*sz
 |[],_=>by simp
 |r::rows,h=>by
  rw[YE,Xt,h r (by simp),cD (fun r hr=>h r (by simp[hr])),XD,YI];omega
omit hd in
theorem vO {M:Nat→Prop}{w:World}{sz:Nat}{rows:List (List D)}{ad:Addr}{n cap:Nat}(hs:0 < sz)(h:RepD M w (.sl sz rows) (.slice (some ad) n cap)):
 ∃xs:List Value,xs.length=n*sz∧n=rows.length∧co M w rows.flatten xs∧(∀j u,xs[j]? =some u→w.cell? (ad.add j)=some u)∧(∀u∈xs,u.oneCell'=true)∧(∀r∈rows,r.length=sz)∧(∀r∈rows,∀d∈r,d.one=true):=by
 cases h with
 |nil _ _ _ hm=>exact⟨[],by simp,rfl,⟨rfl,fun j d x h=>by simp at h⟩,fun j u h=>by simp at h,fun u h=>by simp at h,fun r h=>by simp at h,fun r h=>by simp at h⟩
 |sl _ _ b off cap f hM hb hc hm hr h1 bY aY=>
  have hdm:∀j,j < rows.length*sz→j / sz < rows.length∧j % sz < sz∧j / sz*sz+j % sz=j:=fun j hj=>
   ⟨ZB (by rw[Zs];exact hj),_i _ hs,by rw[Zs];exact ZT j sz⟩
  have Gz:∀j u,((X3 (rows.length*sz)).map fun j=>f (j / sz) (j % sz))[j]? =some u→j < rows.length*sz∧u=f (j / sz) (j % sz):=by
   intro j u hj;simp only[XA,XG]at hj;obtain⟨y,hy,rfl⟩:=hj;have hj':j < rows.length*sz:=by
    rcases XO j (rows.length*sz)with h|h
    ·exact h
    ·rw[XN (by simpa using h)]at hy;cases hy
   rw[Z2 hj']at hy;cases hy;exact⟨hj',rfl⟩
  have KC:co M w rows.flatten ((X3 (rows.length*sz)).map fun j=>f (j / sz) (j % sz)):=by
   refine⟨by rw[cD hr];simp,fun j d x hj hx=>?_⟩;obtain⟨hj',rfl⟩:=Gz j x hx;obtain⟨q1,q2,q3⟩:=hdm j hj';rw[←q3,cr hr _ _ q2]at hj;cases bO:rows[j / sz]? with
   |none=>rw[bO]at hj;cases hj
   |some row=>
    rw[bO]at hj;exact aY _ _ row d bO hj
  refine⟨_,by simp,rfl,KC,fun j u hj=>?_,co.one KC (fun d hd=>?_),hr,h1⟩
  ·obtain⟨hj',rfl⟩:=Gz j u hj;obtain⟨q1,q2,q3⟩:=hdm j hj';rw[Addr.add_lit];have:=bY _ _ q1 q2;rwa [Zd,q3]at this
  ·obtain⟨r,hr',Pc⟩:=Z5.1 hd;exact h1 r hr' d Pc
omit hd in
theorem AM {P:Program}{w:World}(base:Nat)(t ty e:TypeId)(i:TypeInfo)(z:Value)(size bytes:Nat)(ht:P.underlying t=some (.slice e))(hi:P.info? e=some i)(hz:i.zero=some z)
 (lW:i.size=size) (B0:i.bytes=bytes) (KA:z.cells.size=size) (cM:0 < size) (v:Value) (n:Nat) (xs:List Value) (bt:w.ownsRow base e size v n xs)
 (a:Addr) (m c:Nat) (news:List Value) (hl:news.length=m*size) (uG:∀j u,news[j]? =some u→w.cell? (a.add j)=some u) (h1:∀u∈news,u.oneCell'=true)
 (So:n+m≤maxLen) (rd:(n+m)*bytes≤140737488355328) {v':Value}{w':World} (b9:(Builtin.append_ #[t,t] ty #[v,.slice (some a) m c]).run P w= .ok v' w'):
 v'.ownBlock=v.ownBlock∨∀b,v'.ownBlock=some b→w.heap.size≤b:=by
 subst lW;subst B0;simp only[maxLen]at So;rcases bt.2 with⟨rfl,rfl⟩|⟨g,cap,cur,rfl,cK,hg,KE,Ki,ly,Sp⟩
 ·by_cases hm:m=0
  ·subst hm;have hn:news=[]:=XZ (by simpa using hl);have:(Builtin.append_ #[t,t] ty #[.slice none 0 0,.slice (some a) 0 c]).run P w= .ok (.slice none 0 0) w:=by
    simp[Builtin.append_,run_underlying ht,sizeOf,typeInfo,hi,Builtin.lenOf,Builtin.firstCells,loadCells,loadCellsFrom]
   rw[this]at b9;cases b9;exact .inl rfl
  ·have hr:=run_append_nil (P:=P) w t ty e i z ht hi hz a m c news hl uG (by omega) (by omega) (by have hb:=rd;simp only[XK]at hb;omega);rw[hr]at b9;cases b9;refine .inr fun b hb=>?_;simp[Value.ownBlock]at hb;omega
 ·by_cases gZ:n+m≤cap
  ·have tV:n*i.size+news.length≤cur.size:=by rw[hl,ly,←Zu];exact Yo _ gZ
   have hr:=run_append_room (P:=P) w t ty e i ht hi g n cap cur hg a m c news hl uG h1 gZ tV;rw[hr]at b9;cases b9;exact .inl rfl
  ·have holds:∀j u,xs[j]? =some u→w.cell? ((⟨g,0,none⟩:Addr).add j)=some u:=bt.cells (g:=g) rfl;have hr:=run_append_grow (P:=P) w t ty e i z ht hi hz ⟨g,0,none⟩ n cap xs bt.1 holds a m c news hl uG (by omega) (by omega) (growslice_fits (by omega) rd);rw[hr]at b9;cases b9;refine .inr fun b hb=>?_;simp[Value.ownBlock]at hb;omega
omit hd in
theorem OwnV.of_row {w:World}{base E sz:Nat}{v:Value}{n:Nat}{xs:List Value}(h:w.ownsRow base E sz v n xs):OwnV w E sz v n xs:=by
 have hl:=h.1;rcases h.2 with⟨rfl,rfl⟩|⟨g,cap,cur,rfl,cK,hg,KE,Ki,ly,ht⟩
 ·have:xs=[]:=XZ (by simpa using hl);subst this;exact .nil
 ·rcases Zl cap with h0|h0
  ·subst h0;have hn:n=0:=by omega
   subst hn;have:xs=[]:=XZ (by simpa using hl);subst this;exact .zero _
  ·exact .row g n cap cur xs h0 hg KE Ki ly hl ht
omit hd in
theorem cF {a:Addr}{n cap:Nat}(h:0 < cap):cQ (.slice (some a) n cap)=some a.block:=by
 obtain⟨cap,rfl⟩:∃c,cap=c+1:=⟨cap - 1,by omega⟩;rfl
omit hd in
theorem rD {P:Program}{w:World}(t ty e:TypeId)(i:TypeInfo)(z:Value)(size bytes:Nat)(ht:P.underlying t=some (.slice e))(hi:P.info? e=some i)(hz:i.zero=some z)
 (lW:i.size=size) (B0:i.bytes=bytes) (KA:z.cells.size=size) (cM:0 < size) (v:Value) (n:Nat) (xs:List Value) (bt:OwnV w e size v n xs)
 (a:Addr) (m c:Nat) (news:List Value) (hl:news.length=m*size) (uG:∀j u,news[j]? =some u→w.cell? (a.add j)=some u) (h1:∀u∈news,u.oneCell'=true)
 (So:n+m≤maxLen) (rd:(n+m)*bytes≤140737488355328):
 ∃v' w',(Builtin.append_ #[t,t] ty #[v,.slice (some a) m c]).run P w= .ok v' w'∧OwnV w' e size v' (n+m) (xs++news)∧OneB w w' (cQ v)∧(cQ v'=cQ v∨∀b,cQ v'=some b→w.heap.size≤b):=by
 have main:∀u,w.ownsRow 0 e size u n xs→(u= .slice none 0 0∨∃g cap,0 < cap∧u= .slice (some ⟨g,0,none⟩) n cap)→
  ∃v' w',(Builtin.append_ #[t,t] ty #[u,.slice (some a) m c]).run P w= .ok v' w'∧OwnV w' e size v' (n+m) (xs++news)∧OneB w w' (cQ u)∧(cQ v'=cQ u∨∀b,cQ v'=some b→w.heap.size≤b):=by
  intro u hu hk;obtain⟨v',w',b9,dL,E9,-⟩:=run_append_own (P:=P) w 0 t ty e i z size bytes ht hi hz lW B0 KA cM u n xs hu a m c news hl uG h1 So rd (XL _);have KF:=AM (P:=P) (w:=w) 0 t ty e i z size bytes ht hi hz lW B0 KA cM u n xs hu a m c news hl uG h1 So rd b9;have hb:u.ownBlock=cQ u:=by
   rcases hk with rfl|⟨g,cap,h0,rfl⟩
   ·rfl
   ·rw[cF h0];rfl
  have nQ:∀b,cQ v'=some b→v'.ownBlock=some b:=by
   intro b hb;cases v' with
   |slice ao k cap=>
    cases ao with
    |none=>cases hb
    |some ad=>cases cap with
     |zero=>cases hb
     |succ cap=>exact hb
   |_=>cases hb
  refine⟨v',w',b9,.of_row dL,⟨E9.os,E9.tape,E9.output,E9.size,fun b hb' bH=>E9.block b hb' (fun e=>bH (by rw[←hb];exact e.symm))⟩,?_⟩;rcases KF with hw|hw
  ·by_cases Ot:∃b,cQ v'=some b
   ·obtain⟨b,Sq⟩:=Ot;exact .inl (by rw[←hb,←hw,Sq,nQ b Sq])
   ·exact .inr fun b hb=>absurd ⟨b,hb⟩ Ot
  ·exact .inr fun b hb=>hw b (nQ b hb)
 cases bt with
 |nil=>exact main _ (Q' w 0 e size) (.inl rfl)
 |row g n cap cur xs h0 hh hn hm hs hl ht=>exact main _ ⟨hl,.inr ⟨g,cap,cur,rfl,XL _,hh,hn,hm,hs,ht⟩⟩ (.inr ⟨g,cap,h0,rfl⟩)
 |zero ad=>
  by_cases hm:m=0
  ·subst hm;have hn:news=[]:=XZ (by simpa using hl);subst hn;refine⟨.slice (some ad) 0 0,w,?_,.zero ad,⟨rfl,rfl,rfl,XC _,fun _ _ _=>rfl⟩,.inl rfl⟩;simp[Builtin.append_,run_underlying ht,sizeOf,typeInfo,hi,Builtin.lenOf,Builtin.firstCells,loadCells,loadCellsFrom,storeCells]
  ·simp only[maxLen]at So;have BP:=run_append_nil (P:=P) w t ty e i z ht hi hz a m c news (by rw[lW];exact hl) uG (by omega) (by omega) (by rw[B0];simp only[XK]at rd;omega);have hg:=run_append_grow (P:=P) w t ty e i z ht hi hz ad 0 0 [] (by simp) (fun j v h=>by simp at h) a m c news (by rw[lW];exact hl) uG (by omega) (by omega)
    (by rw[B0];exact growslice_fits (by omega) rd)
   obtain⟨v',w',g1,g2,g3,g4⟩:=main _ (Q' w 0 e size) (.inl rfl);rw[BP]at g1;simp only[XK]at hg;have e2:(#[]++news.toArray++Builtin.zeroCells z.cells (grownCap w m 0 e - m))=news.toArray++Builtin.zeroCells z.cells (grownCap w m 0 e - m):=by simp
   rw[show ([]:List Value).toArray=#[] from rfl,e2,g1]at hg;exact⟨v',w',hg,g2,g3,g4⟩
omit hd in
theorem mn {P:Program}{w:World}(t ty e:TypeId)(i:TypeInfo)(size:Nat)(ht:P.underlying t=some (.slice e))(hi:P.info? e=some i)(v:Value)(n:Nat)(xs:List Value)(bt:OwnV w e size v n xs)(c:Nat):
 (Builtin.append_ #[t,t] ty #[v,.slice none 0 c]).run P w= .ok v w:=by
 cases bt with
 |nil=>simp[Builtin.append_,run_underlying ht,sizeOf,typeInfo,hi,Builtin.lenOf,Builtin.firstCells]
 |zero a=>simp[Builtin.append_,run_underlying ht,sizeOf,typeInfo,hi,Builtin.lenOf,Builtin.firstCells,storeCells]
 |row g n cap cur xs h0 hh hn hm hs hl gx=>simp[Builtin.append_,run_underlying ht,sizeOf,typeInfo,hi,Builtin.lenOf,Builtin.firstCells,hn,storeCells]
omit hd in
theorem gI {rows:List (List D)}{r:List PV}(h:r∈ab rows):∃q∈rows,r=q.map .d:=by
 obtain⟨q,hq,rfl⟩:=XH.1 h;exact⟨q,hq,rfl⟩
omit hd in
theorem p9 (rows:List (List D)):(ab rows).flatten=rows.flatten.map .d:=by
 simp[ab,List.map_flatten]
inductive SrcP (s:FS) (sz:Nat):PV→List (List PV)→List Nat→Prop
 |sl (news:List (List D)):SrcP s sz (.d (.sl sz news)) (ab news) []
 |nil (ao:Option Addr) (c:Nat):SrcP s sz (.d (.v (.slice ao 0 c))) [] []
 |own (k g E:Nat) (rows:List (List PV)) (h:s.heap k= .row E sz g rows):SrcP s sz (.own k g) rows [k]
 |osl (k g E a n:Nat) (rows:List (List PV)) (h:s.heap k= .row E sz g rows):SrcP s sz (.osl k g sz a n) ((rows.drop a).take n) [k]
omit hd in
theorem jY {α:Type}{sz:Nat}:∀{rows:List (List α)},(∀r∈rows,r.length=sz)→∀a,(rows.drop a).flatten=rows.flatten.drop (a*sz)
 |rows,_,0=>by simp
 |[],_,a+1=>by simp
 |r::rows,h,a+1=>by
  have hr:=h r (by simp);rw[List.drop_succ_cons,jY (fun r hr=>h r (by simp[hr])) a,YE,YI,_n,V' (l:=r) (by omega),Ye,hr];congr 1;omega
omit hd in
theorem ic {α:Type}{sz:Nat}:∀{rows:List (List α)},(∀r∈rows,r.length=sz)→∀a,(rows.take a).flatten=rows.flatten.take (a*sz)
 |rows,_,0=>by simp
 |[],_,a+1=>by simp
 |r::rows,h,a+1=>by
  have hr:=h r (by simp);rw[ZI,YE,YE,ic (fun r hr=>h r (by simp[hr])) a,YI,List.take_append,XI (l:=r) (by omega),hr];congr 2;omega
omit hd in
theorem Fo {s s':FS}{sz:Nat}{y:PV}{news:List (List PV)}{ty:List Nat}(h:SrcP s sz y news ty)(BQ:0 < sz)(gz:∀k∈ty,s'.heap k=s.heap k){a:Act}{w:World}{c:Cx}(hc:RealC X s' a w c){v:Value}(hr:RepP c w y v):
 (∀r∈news,r.length=sz)∧(∀r∈news,∀d∈r,d.one=true)∧((∃c0,v= .slice none 0 c0∧news=[])∨
  ∃(ad:Addr) (cap:Nat) (ys:List Value),v= .slice (some ad) news.length cap∧ys.length=news.length*sz∧(∀j u,ys[j]? =some u→w.cell? (ad.add j)=some u)∧(∀u∈ys,u.oneCell'=true)∧bj c w news.flatten ys):=by
 cases h with
 |sl news=>
  have hr:=bS hr;have some_case:∀(ad:Addr) (n cap:Nat),RepD c.M w (.sl sz news) (.slice (some ad) n cap)→_:=fun ad n cap h=>vO BQ h;have rows_ok:(∀r∈news,r.length=sz)→(∀r∈news,∀d∈r,d.one=true)→(∀r∈ab news,r.length=sz)∧(∀r∈ab news,∀d∈r,d.one=true):=fun g1 g2=>by
   refine⟨fun r hr=>?_,fun r hr d hd=>?_⟩
   ·obtain⟨q,hq,rfl⟩:=gI hr;simpa using g1 q hq
   ·obtain⟨q,hq,rfl⟩:=gI hr;obtain⟨x,hx,rfl⟩:=XH.1 hd;exact g2 q hq x hx
  have aT:(ab news).length=news.length:=by simp[ab]
  cases hr with
  |nil _ ao cap hm=>
   refine⟨fun r h=>by simp[ab]at h,fun r h=>by simp[ab]at h,?_⟩;cases ao with
   |none=>exact .inl ⟨cap,rfl,rfl⟩
   |some ad=>exact .inr ⟨ad,cap,[],rfl,by simp[ab],fun j u h=>by simp at h,fun u h=>by simp at h,⟨rfl,fun j d x h=>by simp[ab]at h⟩⟩
  |sl _ _ b off cap f a1 a2 a3 a4 a5 a6 a7 a8=>
   obtain⟨ys,y1,-,y2,y3,y4,y5,y6⟩:=vO (w:=w) BQ (RepD.sl (M:=c.M) sz news b off cap f a1 a2 a3 a4 a5 a6 a7 a8);obtain⟨q1,q2⟩:=rows_ok y5 y6;exact⟨q1,q2,.inr ⟨⟨b,off,none⟩,cap,ys,by rw[aT],by rw[aT];exact y1,y3,y4,by rw[p9];exact pu y2⟩⟩
 |nil ao c=>
  have hr:=bS hr;cases hr;cases ao with
  |none=>exact⟨fun r h=>by simp at h,fun r h=>by simp at h,.inl ⟨c,rfl,rfl⟩⟩
  |some ad=>exact⟨fun r h=>by simp at h,fun r h=>by simp at h,.inr ⟨ad,c,[],rfl,by simp,fun j u h=>by simp at h,fun u h=>by simp at h,⟨rfl,fun j d x h=>by simp at h⟩⟩⟩
 |own k g E rows hk=>
  have bD:=hc.chunk k;rw[gz k (by simp),hk]at bD;cases hr with
  |own _ _ _ ed _=>
   cases bD with
   |row _ _ _ _ u xs hu bt yg cM h1 hg=>
    rw[ed]at hu;cases hu;refine⟨cM,h1,?_⟩;have di:=bj.one yg (fun d hd=>by obtain⟨r,hr,hd⟩:=Z5.1 hd;exact h1 r hr d hd);generalize hn:news.length=n' at bt;cases bt with
    |nil=>exact .inl ⟨0,rfl,XZ hn⟩
    |zero ad=>exact .inr ⟨ad,0,[],rfl,by simp,fun j u h=>by simp at h,fun u h=>by simp at h,yg⟩
    |row gb _ cap cur _ h0 hh KE hm hs hl ht=>
     refine .inr ⟨⟨gb,0,none⟩,cap,xs,rfl,hl,fun j u hj=>?_,di,yg⟩;rw[Addr.add_lit];have hlt:j < n'*sz:=by rw[←hl];exact(Xo.1 hj).1
     rw[←ht,XQ hlt,X2]at hj;simp[YQ,hh,hj]
 |osl k g E st m rows hk=>
  have bD:=hc.chunk k;rw[gz k (by simp),hk]at bD;cases hr with
  |osl _ _ _ _ _ b o N cap ed hn Sr ho=>
   cases bD with
   |row _ _ _ _ u xs hu bt yg cM h1 hg=>
    rw[ed]at hu;cases hu;have di:=bj.one yg (fun d hd=>by obtain⟨r,hr,hd⟩:=Z5.1 hd;exact h1 r hr d hd);refine⟨fun r hr=>cM r (Yb (Yc hr)),fun r hr=>h1 r (Yb (Yc hr)),.inr ⟨⟨b,o,none⟩,cap - st,(xs.drop (st*sz)).take (m*sz),?_⟩⟩;have hN:N=rows.length:=by
     have:=bt;generalize rows.length=n' at this;cases this<;>rfl
    have US:((rows.drop st).take m).length=m:=by rw[Xp,XS];omega
    have VF:=bt.len;have T4:(st+m)*sz≤rows.length*sz:=Yo sz (by omega);rw[Zu]at T4;refine⟨by rw[US],by rw[US,Xp,XS];omega,fun j u hj=>?_,fun u hu=>di u (Yb (Yc hu)),?_⟩
    ·have hlt:j < m*sz:=by
      have:=(Xo.1 hj).1;rw[Xp]at this;omega
     rw[XQ hlt,Yk]at hj;have hm0:0 < m:=by
      rcases Zl m with h|h
      ·subst h;simp at hlt
      ·exact h
     rw[Addr.add_lit,ho (by omega)];generalize hnn:rows.length=n' at bt;cases bt with
     |zero=>simp at hnn;omega
     |row _ _ _ cur _ h0 hh KE hm hs hl ht=>
      rw[←ht,XQ (by rw[hnn]at T4;omega),X2]at hj;simp[YQ,hh,hj]
    ·rw[ic (fun r hr=>cM r (Yb hr)),jY cM];exact yg.part _ _
omit hd in
theorem sU {c:Cx}{w:World}{ds es:List PV}{vs us:List Value}(h:bj c w ds vs)(g:bj c w es us):bj c w (ds++es) (vs++us):=by
 refine⟨by simp[h.1,g.1],fun j d x hj hx=>?_⟩;by_cases hlt:j < ds.length
 ·rw[X5 hlt]at hj;rw[X5 (by rw[←h.1];exact hlt)]at hx;exact h.2 j d x hj hx
 ·rw[XP (by omega)]at hj;rw[XP (by rw[←h.1];omega),←h.1]at hx;exact g.2 _ d x hj hx
theorem Ir {t e k sz g:Nat}{x y:Operand}{ti te:TI}{rows news:List (List PV)}{tyy:List Nat}(ho:o.op= .call {callee:= .builtin .append,args:=#[x,y],argTypes:=#[t,t]})(ht:aJ X.P t=some ti)(he':ti.elem=some e)(fT:aJ X.P e=some te)
 (cM:te.size=sz) (BQ:0 < sz) (hx:ev s x= .own k g) (hk:s.heap k= .row e sz g rows) (hy:SrcP s sz (ev s y) news tyy)
 (aT:rows.length+news.length≤9223372036854775807) (B0:(rows.length+news.length)*te.bytes≤140737488355328):
 bv X ops s o {pv:= .own k (g+1),eff:=[(k,.row e sz (g+1) (rows++news))],touch:=k::tyy}:=
 dJ hd (fun kc h=>by simp at h;subst h;simp) fun s' he gz a w c hc=>by
  have e1:=bF hc x;rw[he x (by simp[ho,Op.operands,Call.operands]),hx]at e1;have e2:=bF hc y;rw[he y (by simp[ho,Op.operands,Call.operands])]at e2;have hk':s'.heap k= .row e sz g rows:=by rw[gz k (by simp)];exact hk
  have bD:=hc.chunk k;rw[hk']at bD;obtain⟨i,d,z,tk⟩:=gC ht;obtain⟨ie,de,ze,tke⟩:=gC fT;have jP:d= .slice e:=by
   have:=tk.elem;rw[he']at this;cases d<;>simp[fB]at this;rw[this]
  subst jP;have KA:ze.cells.size=sz:=by rw[←cM,←tke.zsize,←tke.zcells];simp
  have EQ:∀u v,a.eval x=u→a.eval y=v→∀v' w',(Builtin.append_ #[t,t] o.type #[u,v]).run X.P w= .ok v' w'→(execOp a.eval o).run X.P w= .ok (.value v') w':=by
   intro u v hu hv v' w' hr;simp[execOp,ho,resolve,hu,hv,invoke,builtin,hr]
  generalize hu:a.eval x=u at e1;generalize hv:a.eval y=v at e2;obtain⟨n1,n2,sE⟩:=Fo hy BQ (fun k hk=>gz k (YR _ hk)) hc e2;cases e1 with
  |own _ _ _ ed sK=>
   cases bD with
   |row _ _ _ _ u' xs hu' bt hr RH h1 hg=>
    rw[ed]at hu';cases hu';rcases sE with⟨c0,rfl,rfl⟩|⟨ad,cap,ys,rfl,y1,y2,y3,y4⟩
    ·have b9:=mn (P:=X.P) t o.type e ie sz tk.und tke.info u rows.length xs bt c0;obtain⟨c',q1,q2⟩:=hc.set_row (w':=w) (rows':=rows++[]) (v':=u) (xs':=xs) hk' ed ⟨rfl,rfl,rfl,XC _,fun _ _ _=>rfl⟩ (by rw[Ya];exact bt) (.inl rfl) (by rw[Ya];exact hr)
      (by rw[Ya];exact RH) (by rw[Ya];exact h1)
     exact⟨_,_,_,EQ _ _ hu hv _ _ b9,.inl rfl,c',q1,q2⟩
    ·obtain⟨v',w',b9,dL,E9,KF⟩:=rD (P:=X.P) (w:=w) t o.type e ie ze sz te.bytes tk.und tke.info tke.zero (tke.size.trans cM) tke.bytes KA BQ u rows.length xs bt ad news.length cap ys y1 y2 y3 (by unfold maxLen;exact aT) B0;obtain⟨c',q1,q2⟩:=hc.set_row (w':=w') (rows':=rows++news) (v':=v') (xs':=xs++ys) hk' ed E9 (by rw[Xt];exact dL) KF (by rw[L'];exact sU hr y4)
      (fun r hr'=>(X4.1 hr').elim (RH r) (n1 r)) (fun r hr'=>(X4.1 hr').elim (h1 r) (n2 r))
     exact⟨_,_,_,EQ _ _ hu hv _ _ b9,.inl rfl,c',q1,q2⟩
theorem AN {t e nk sz:Nat}{x y:Operand}{ti te:TI}{news:List (List PV)}{tyy:List Nat}(ho:o.op= .call {callee:= .builtin .append,args:=#[x,y],argTypes:=#[t,t]})(ht:aJ X.P t=some ti)(he':ti.elem=some e)(fT:aJ X.P e=some te)
 (cM:te.size=sz) (BQ:0 < sz) (hx:ev s x= .d (.v (.slice none 0 0))) (hk:s.heap nk= .none) (uF:¬nk < X.m) (hy:SrcP s sz (ev s y) news tyy)
 (aT:news.length≤9223372036854775807) (B0:news.length*te.bytes≤140737488355328):
 bv X ops s o {pv:= .own nk 0,eff:=[(nk,.row e sz 0 news)],touch:=nk::tyy}:=
 dJ hd (fun kc h=>by simp at h;subst h;simp) fun s' he gz a w c hc=>by
  have e2:=bF hc y;rw[he y (by simp[ho,Op.operands,Call.operands])]at e2;have hk':s'.heap nk= .none:=by rw[gz nk (by simp)];exact hk
  have hu:=cY hc ((he x (by simp[ho,Op.operands,Call.operands])).trans hx);obtain⟨i,d,z,tk⟩:=gC ht;obtain⟨ie,de,ze,tke⟩:=gC fT;have jP:d= .slice e:=by
   have:=tk.elem;rw[he']at this;cases d<;>simp[fB]at this;rw[this]
  subst jP;have KA:ze.cells.size=sz:=by rw[←cM,←tke.zsize,←tke.zcells];simp
  generalize hv:a.eval y=v at e2;have EQ:∀v' w',(Builtin.append_ #[t,t] o.type #[.slice none 0 0,v]).run X.P w= .ok v' w'→(execOp a.eval o).run X.P w= .ok (.value v') w':=by
   intro v' w' hr;simp[execOp,ho,resolve,hu,hv,invoke,builtin,hr]
  obtain⟨n1,n2,sE⟩:=Fo hy BQ (fun k hk=>gz k (YR _ hk)) hc e2;rcases sE with⟨c0,rfl,rfl⟩|⟨ad,cap,ys,rfl,y1,y2,y3,y4⟩
  ·have b9:=mn (P:=X.P) (w:=w) t o.type e ie sz tk.und tke.info (.slice none 0 0) 0 [] .nil c0;obtain⟨c',q1,q2⟩:=hc.new_row (w':=w) hk' uF e sz [] (.slice none 0 0) [] (Below.refl _ _) .nil (fun b h=>by cases h) ⟨rfl,fun j d x h=>by simp at h⟩ (by simp) (by simp);exact⟨_,_,_,EQ _ _ b9,.inl rfl,c',q1,q2⟩
  ·obtain⟨v',w',b9,dL,E9,KF⟩:=rD (P:=X.P) (w:=w) t o.type e ie ze sz te.bytes tk.und tke.info tke.zero (tke.size.trans cM) tke.bytes KA BQ (.slice none 0 0) 0 [] .nil ad news.length cap ys y1 y2 y3 (by unfold maxLen;omega) (by rw[XK];exact B0);have hx':cW w w':=⟨E9.os,E9.tape,E9.output,E9.size,fun b hb=>E9.block b hb (fun h=>by cases h)⟩;obtain⟨c',q1,q2⟩:=hc.new_row (w':=w') hk' uF e sz news v' ys hx' (by rw[XK,Ye]at dL;exact dL) (fun b hb=>by
    rcases KF with h0|h0
    ·rw[h0]at hb;cases hb
    ·exact h0 b hb) y4 n1 n2
   exact⟨_,_,_,EQ _ _ b9,.inl rfl,c',q1,q2⟩
omit hd in
theorem Fp {α:Type}{l m xs:List α}{off:Nat}(h:off+xs.length≤l.length):av (l++m) off xs=av l off xs++m:=by
 unfold av;rw[Yp (by omega),List.drop_append_of_le_length (by omega)];simp
omit hd in
theorem Cr {α:Type}{l m xs:List α}{off:Nat}:av (l++m) (l.length+off) xs=l++av m off xs:=by
 unfold av;rw[List.take_append,_n];rw[XI (by omega),V' (by omega)];simp only[Ye,XT];rw[show l.length+off - l.length=off by omega,show l.length+off+xs.length - l.length=off+xs.length by omega]
omit hd in
theorem ue {α:Type}{sz:Nat}:∀{rows:List (List α)},(∀r∈rows,r.length=sz)→∀{i j:Nat}{row ps:List α},rows[i]? =some row→j+ps.length≤sz→(rows.set i (av row j ps)).flatten=av rows.flatten (i*sz+j) ps
 |[],_,i,j,row,ps,h,_=>by simp at h
 |r::rows,hl,0,j,row,ps,h,hj=>by
  simp at h;subst h;rw[Xv,YE,YE,Nat.zero_mul,XK,Fp (by rw[hl r (by simp)];exact hj)]
 |r::rows,hl,i+1,j,row,ps,h,hj=>by
  rw[Xw,YE,YE,ue (fun r hr=>hl r (by simp[hr])) (by simpa using h) hj];have hr:=hl r (by simp);rw[show (i+1)*sz+j=r.length+(i*sz+j) by rw[YI];omega,Cr]
omit hd in
theorem vP {α:Type}{l xs:List α}{off n:Nat}(h:off+xs.length≤n)(hn:n≤l.length):(av l off xs).take n=av (l.take n) off xs:=by
 apply Yh;intro j;rw[gH (by rw[Xp];omega)];by_cases hj:j < n
 ·rw[XQ hj,gH (by omega),XQ hj]
 ·rw[XN (by rw[Xp];omega),if_neg (by omega),XN (by rw[Xp];omega)]
theorem Fq {t k g sz i j E:Nat}{x y:Operand}{ti:TI}{rows:List (List PV)}{row:List PV}(ho:o.op= .store t x y)(tW:o.dst=none)(ht:aJ X.P t=some ti)(hx:ev s x= .rp k g sz i j)(hk:s.heap k= .row E sz g rows)(bO:rows[i]? =some row)(hy:zn (ev s y)=true)
 (hl:(cN (ev s y)).length=ti.size) (cM:j+ti.size≤sz):bv X ops s o {pv:= .any,eff:=[(k,.row E sz g (rows.set i (av row j (cN (ev s y)))))],touch:=[k]}:=
 dJ hd (fun kc h=>by simp at h;subst h;simp) fun s' he gz a w c hc=>by
  have e1:=bF hc x;rw[he x (by simp[ho,Op.operands]),hx]at e1;have e2:=bF hc y;rw[he y (by simp[ho,Op.operands])]at e2;obtain⟨r1,r2⟩:=kj e2 hy;have di:=bj.one r1 r2;have hk':s'.heap k= .row E sz g rows:=by rw[gz k (by simp)];exact hk
  have bD:=hc.chunk k;rw[hk']at bD;generalize hu:a.eval x=u at e1;cases e1 with
  |rp _ _ _ _ _ b n cap hb=>
   have bH:rows≠[]:=fun e=>by rw[e]at bO;cases bO
   obtain⟨cur,xs,q1,q2,q3,q4,q5,q6,q7,q8,q9,q10,q11⟩:=dV bD hb bH;have hi:i < rows.length:=(Xo.1 bO).1;have BO:(i+1)*sz≤rows.length*sz:=Yo sz hi;rw[YI]at BO;obtain⟨ii,d,z,tk⟩:=gC ht;have va:(a.eval y).cells.size=ti.size:=by have:=r1.1;simp at this;omega
   have fU:=run_storeCells_at X.P b (i*sz+j) E (a.eval y).cells.toList 0 cur w q1 (by simp;omega) di;have pX:(storeCells ⟨b,i*sz+j,none⟩ (a.eval y).cells.toList).run X.P w= .ok () (w.setRow b (av cur.toList (i*sz+j) (a.eval y).cells.toList).toArray):=by
    rw[fU];simp[av]
   have b9:(Instr.storeAt t (a.eval x) (a.eval y)).run X.P w= .ok () (w.setRow b (av cur.toList (i*sz+j) (a.eval y).cells.toList).toArray):=by
    rw[hu];simp[Instr.storeAt,Instr.sureAddr,storeVar,sizeOf,typeInfo,tk.info,tk.size,va,pX]
   have ER:0 < cap:=by omega
   have cy:(av cur.toList (i*sz+j) (a.eval y).cells.toList).length=cur.size:=by rw[aR (by simp;omega)];simp
   have Kz:xs=cur.toList.take (rows.length*sz):=by
    apply Yh;intro j';by_cases hj':j' < rows.length*sz
    ·rw[XQ hj'];exact(q4 j' hj').symm.trans (by simp)
    ·rw[XN (by omega),XN (by rw[Xp];omega)]
   have BM:(av xs (i*sz+j) (a.eval y).cells.toList).length=rows.length*sz:=by rw[aR (by simp;omega)];exact q3
   have jQ:=hc.put_row (w':=w.setRow b (av cur.toList (i*sz+j) (a.eval y).cells.toList).toArray) (rows':=rows.set i (av row j (cN (ev s y)))) (xs':=av xs (i*sz+j) (a.eval y).cells.toList) hk' hb
    ⟨rfl,rfl,rfl,by simp[ZK],fun b' _ Ow=>by
     rw[cF ER]at Ow;simp only[ZK,Y0];rw[if_neg (fun e=>Ow (by rw[e]))]⟩
    (by
     rw[A',q7];exact .row b rows.length cap _ _ ER (setRow_heap w b _ _ E _ q1) (by omega) q9 (by simp[cy,q11]) BM (by
      rw[Y3,vP (by simp;omega) (by simp;omega),←Kz]))
    (by rw[ue q5 bO (by omega)];exact mi q2 r1 (by rw[q2.1];omega))
    (fun r hr=>by
     rcases Y6 hr with h|rfl
     ·exact q5 r h
     ·rw[aR (by rw[q5 row (Xl bO)];omega)];exact q5 row (Xl bO))
    (fun r hr d hd=>by
     rcases Y6 hr with h|rfl
     ·exact q6 r h d hd
     ·exact(kk hd).elim (q6 row (Xl bO) d) (r2 d))
   refine⟨.skip,undef,_,?_,.inr ⟨rfl,rfl⟩,c,jQ,.any _⟩;simp only[execOp,ho];rw[Sem.run_bind,b9];rfl
end
section
variable {X:Cfg}{ops:Array Oper}{s:FS}{o:Oper}(hd:∀d,o.dst=some d→d < X.n)
theorem yq {α:Type}{sz:Nat}{rows news:List (List α)}(h:∀r∈rows,r.length=sz)(hn:∀r∈news,r.length=sz)(i:Nat):(av rows i news).flatten=av rows.flatten (i*sz) news.flatten:=by
 unfold av;rw[L',L',ic h,jY h,cD hn,Zu]
theorem yr (z:Array Value)(n:Nat):(Builtin.zeroCells z n).toList=(XR n z.toList).flatten:=by
 have hl:(Builtin.zeroCells z n).toList.length=n*z.size:=by simp[Builtin.zeroCells]
 have hr:∀r∈XR n z.toList,r.length=z.size:=fun r hr=>by rw[Zx hr];simp
 have H5:(XR n z.toList).flatten.length=n*z.size:=by rw[cD hr];simp
 apply Yh;intro i;by_cases hi:i < n*z.size
 ·have h0:0 < z.size:=by
   rcases Zl z.size with h|h
   ·rw[h]at hi;omega
   ·exact h
  have e1:i / z.size < n:=ZB (by rw[Zs];exact hi);have e2:i % z.size < z.size:=_i _ h0;have e3:i / z.size*z.size+i % z.size=i:=by rw[Zs];exact ZT i z.size
  have e4:=cr hr (i / z.size) (i % z.size) e2;rw[e3,Z6,if_pos e1]at e4;rw[e4];simp[Builtin.zeroCells,hi,e2]
 ·rw[XN (by omega),XN (by omega)]
theorem RealC.write_rows {a:Act}{w:World}{c:Cx}(hc:RealC X s a w c){k E sz g:Nat}{rows:List (List PV)}(hk:s.heap k= .row E sz g rows){b n cap:Nat}(hb:c.ov k g=some (.slice (some ⟨b,0,none⟩) n cap))(bH:rows≠[])
 (i:Nat) (news:List (List PV)) (ys:List Value) (hr:bj c w news.flatten ys) (hi:i+news.length≤rows.length) (RI:∀r∈news,r.length=sz) (h1n:∀r∈news,∀d∈r,d.one=true):
 ∃w',(storeCells ⟨b,i*sz,none⟩ ys).run X.P w= .ok () w'∧RealC X {s with heap:=cz [(k,.row E sz g (av rows i news))] s.heap} a w' c:=by
 have bD:=hc.chunk k;rw[hk]at bD;obtain⟨cur,xs,q1,q2,q3,q4,q5,q6,q7,q8,q9,q10,q11⟩:=dV bD hb bH;have di:=bj.one hr (fun d hd=>by obtain⟨r,hr,hd⟩:=Z5.1 hd;exact h1n r hr d hd);have va:ys.length=news.length*sz:=by rw[←hr.1,cD RI]
 have BO:(i+news.length)*sz≤rows.length*sz:=Yo sz hi;rw[Zu]at BO;have fU:=run_storeCells_at X.P b (i*sz) E ys 0 cur w q1 (by simp;omega) di;have pX:(storeCells ⟨b,i*sz,none⟩ ys).run X.P w= .ok () (w.setRow b (av cur.toList (i*sz) ys).toArray):=by
  rw[fU];simp[av]
 have ER:0 < cap:=by
  have:0 < rows.length:=Zh.2 bH;omega
 have cy:(av cur.toList (i*sz) ys).length=cur.size:=by rw[aR (by simp;omega)];simp
 have Kz:xs=cur.toList.take (rows.length*sz):=by
  apply Yh;intro j';by_cases hj':j' < rows.length*sz
  ·rw[XQ hj'];exact(q4 j' hj').symm.trans (by simp)
  ·rw[XN (by omega),XN (by rw[Xp];omega)]
 have BM:(av xs (i*sz) ys).length=rows.length*sz:=by rw[aR (by omega)];exact q3
 refine⟨_,pX,hc.put_row (rows':=av rows i news) (xs':=av xs (i*sz) ys) hk hb ⟨rfl,rfl,rfl,by simp[ZK],fun b' _ Ow=>by
  rw[cF ER]at Ow;simp only[ZK,Y0];rw[if_neg (fun e=>Ow (by rw[e]))]⟩ ?_ ?_ ?_ ?_⟩
 ·rw[aR hi,q7];exact .row b rows.length cap _ _ ER (setRow_heap w b _ _ E _ q1) (by omega) q9 (by simp[cy,q11]) BM (by
   rw[Y3,vP (by omega) (by simp;omega),←Kz])
 ·rw[yq q5 RI];exact mi q2 hr (by rw[q2.1,cD RI];omega)
 ·exact fun r hr=>(kk hr).elim (q5 r) (RI r)
 ·exact fun r hr=>(kk hr).elim (q6 r) (h1n r)
include hd
theorem AO {t e k sz g n:Nat}{x y:Operand}{ti te:TI}{rows news:List (List PV)}{tyy:List Nat}(ho:o.op= .call {callee:= .builtin .append,args:=#[x,y],argTypes:=#[t,t]})(ht:aJ X.P t=some ti)(he':ti.elem=some e)(fT:aJ X.P e=some te)
 (cM:te.size=sz) (BQ:0 < sz) (hx:ev s x= .osl k g sz 0 n) (hk:s.heap k= .row e sz g rows) (bH:rows≠[]) (hy:SrcP s sz (ev s y) news tyy) (fl:n+news.length≤rows.length):
 bv X ops s o {pv:= .osl k g sz 0 (n+news.length),eff:=[(k,.row e sz g (av rows n news))],touch:=k::tyy}:=
 dJ hd (fun kc h=>by simp at h;subst h;simp) fun s' he gz a w c hc=>by
  have e1:=bF hc x;rw[he x (by simp[ho,Op.operands,Call.operands]),hx]at e1;have e2:=bF hc y;rw[he y (by simp[ho,Op.operands,Call.operands])]at e2;have hk':s'.heap k= .row e sz g rows:=by rw[gz k (by simp)];exact hk
  obtain⟨i,d,z,tk⟩:=gC ht;obtain⟨ie,de,ze,tke⟩:=gC fT;have jP:d= .slice e:=by
   have:=tk.elem;rw[he']at this;cases d<;>simp[fB]at this;rw[this]
  subst jP;generalize hu:a.eval x=u at e1;generalize hv:a.eval y=v at e2;obtain⟨n1,n2,sE⟩:=Fo hy BQ (fun k hk=>gz k (YR _ hk)) hc e2;cases e1 with
  |osl _ _ _ _ _ b oo N cap ed hn Sr Ox=>
   have Aw:0 < rows.length:=Zh.2 bH;have bD:=hc.chunk k;rw[hk']at bD;obtain⟨cur,xs,q1,q2,q3,q4,q5,q6,q7,q8,q9,q10,q11⟩:=dV bD ed bH;obtain rfl:oo=0:=by rw[Ox (by omega)];simp
   rcases sE with⟨c0,rfl,rfl⟩|⟨ad,cap',ys,rfl,va,bY,di,yg⟩
   ·obtain⟨w',fU,mY⟩:=hc.write_rows hk' ed bH n [] [] ⟨rfl,fun j d x h=>by simp at h⟩ (by simpa using fl) (fun r h=>by simp at h) (fun r h=>by simp at h);have hw:w'=w:=by simpa[storeCells]using fU.symm
    subst hw;refine⟨_,.slice (some ⟨b,0,none⟩) n (cap - 0),w',?_,.inl rfl,c,mY,?_⟩
    ·simp[execOp,ho,resolve,hu,hv,invoke,builtin,Builtin.append_,run_underlying tk.und,sizeOf,typeInfo,tke.info,Builtin.lenOf,Builtin.firstCells,storeCells,(by omega:n≤cap)]
    ·exact .osl k g sz 0 n b 0 N cap ed (by omega) Sr (fun _=>by simp)
   ·obtain⟨w',fU,mY⟩:=hc.write_rows hk' ed bH n news ys yg fl n1 n2;have T5:=run_firstCells_some (P:=X.P) w sz news.length ad news.length cap' ys va bY;refine⟨_,.slice (some ⟨b,0,none⟩) (n+news.length) (cap - 0),w',?_,.inl rfl,c,mY,?_⟩
    ·have gZ:n+news.length≤cap:=by omega
     have VT:∀ty,(Builtin.append_ #[t,t] ty #[.slice (some ⟨b,0,none⟩) n (cap - 0),.slice (some ad) news.length cap']).run X.P w= .ok (.slice (some ⟨b,0,none⟩) (n+news.length) (cap - 0)) w':=by
      intro ty;simp[Builtin.append_,run_underlying tk.und,sizeOf,typeInfo,tke.info,tke.size,cM,Builtin.lenOf,gZ,T5,Addr.add_lit,fU]
     simp only[Yr]at VT;simp[execOp,ho,resolve,hu,hv,invoke,builtin,VT]
    ·exact .osl k g sz 0 _ b 0 N cap ed (by omega) Sr (fun _=>by simp)
theorem Cs {t e k sz g st n:Nat}{x:Operand}{ti te:TI}{rows:List (List PV)}(ho:o.op= .call {callee:= .builtin .clear,args:=#[x],argTypes:=#[t]})(ht:aJ X.P t=some ti)(he':ti.elem=some e)(fT:aJ X.P e=some te)
 (cM:te.size=sz) (hx:ev s x= .osl k g sz st n) (hk:s.heap k= .row e sz g rows) (bH:rows≠[]) (fl:st+n≤rows.length):
 bv X ops s o {pv:= .d (.v (.tuple #[])),eff:=[(k,.row e sz g (av rows st (XR n (te.zero.map fun x=> .d (.v x)))))],touch:=[k]}:=
 dJ hd (fun kc h=>by simp at h;subst h;simp) fun s' he gz a w c hc=>by
  have e1:=bF hc x;rw[he x (by simp[ho,Op.operands,Call.operands]),hx]at e1;have hk':s'.heap k= .row e sz g rows:=by rw[gz k (by simp)];exact hk
  obtain⟨i,d,z,tk⟩:=gC ht;obtain⟨ie,de,ze,tke⟩:=gC fT;have jP:d= .slice e:=by
   have:=tk.elem;rw[he']at this;cases d<;>simp[fB]at this;rw[this]
  subst jP;generalize hu:a.eval x=u at e1;have Ss:te.zero.length=sz:=by rw[tke.zsize,cM]
  have nZ:∀x∈te.zero,x.oneCell'=true:=tke.one;cases e1 with
  |osl _ _ _ _ _ b oo N cap ed hn Sr Ox=>
   cases n with
   |zero=>
    have jQ:av rows st (XR 0 (te.zero.map fun x=>PV.d (.v x)))=rows:=by simp[av]
    refine⟨_,.tuple #[],w,?_,.inl rfl,c,?_,.d _ _ (.v _)⟩
    ·simp[execOp,ho,resolve,hu,invoke,builtin,Builtin.clear_,run_underlying tk.und]
    ·rw[jQ];have:({env:=s'.env,heap:=cz [(k,.row e sz g rows)] s'.heap}:FS)=s':=by
      cases s' with
      |mk env heap=>
       simp only[FS.mk.injEq,true_and];funext k';rw[ry];show (if k'=k then _ else heap k')=heap k';split
       ·rename_i e;subst e;exact hk'.symm
       ·rfl
     rw[this];exact hc
   |succ n=>
    have Aw:0 < rows.length:=Zh.2 bH;obtain rfl:oo=st*sz:=Ox (by omega);obtain⟨w',fU,mY⟩:=hc.write_rows hk' ed bH st (XR (n+1) (te.zero.map fun x=> .d (.v x))) (XR (n+1) te.zero).flatten
     ⟨by simp[List.map_replicate],fun j d x hj hx=>by
      have e2:(XR (n+1) (te.zero.map fun x=>PV.d (.v x))).flatten=(XR (n+1) te.zero).flatten.map fun x=>PV.d (.v x):=by rw[List.map_flatten,List.map_replicate]
      rw[e2,XA,hx]at hj;cases hj;exact .d _ _ (.v _)⟩
     (by simpa using fl) (fun r hr=>by rw[Zx hr];simpa using Ss)
     (fun r hr d hd=>by
      rw[Zx hr]at hd;obtain⟨x,hx,rfl⟩:=XH.1 hd;exact nZ x hx)
    refine⟨_,.tuple #[],w',?_,.inl rfl,c,mY,.d _ _ (.v _)⟩;have St:(Builtin.zeroCells ze.cells (n+1)).toList=(XR (n+1) te.zero).flatten:=by
     rw[←tke.zcells];exact yr ze.cells (n+1)
    simp[execOp,ho,resolve,hu,invoke,builtin,Builtin.clear_,run_underlying tk.und,zeroValue,typeInfo,tke.info,tke.zero,St,fU]
def GZ:Option PV→Option Nat
 |none=>some 0
 |some (.d (.v (.int _ n)))=>if 0≤n then some n.toNat else none
 |_=>none
def G0 (len:Nat):Option PV→Option Nat
 |none=>some len
 |some (.d (.v (.int _ n)))=>if 0≤n then some n.toNat else none
 |_=>none
omit hd in
theorem oF {P:Program}{t e sz:Nat}{ie:TypeInfo}(ht:P.underlying t=some (.slice e))(hi:P.info? e=some ie)(cM:ie.size=sz)(w:World)(a:Option Addr)(len cap:Nat)(lo hi:Option Value)(l h:Nat)
 (jV:(lo=none∧l=0)∨∃k,lo=some (.int k l)) (lX:(hi=none∧h=len)∨∃k,hi=some (.int k h)) (h1:l≤h) (h2:h≤cap):
 (Instr.sliceAt t (.slice a len cap) lo hi none).run P w= .ok (.slice (if cap=l then a else a.map (·.add (l*sz))) (h - l) (cap - l)) w:=by
 have e1:(0:Int)≤(l:Int):=by omega
 have e2:(0:Int)≤(h:Int):=by omega
 have e3:(l:Int)≤(h:Int):=by omega
 have e4:(h:Int)≤(cap:Int):=by omega
 rcases jV with⟨rfl,rfl⟩|⟨k,rfl⟩<;>rcases lX with⟨rfl,rfl⟩|⟨k',rfl⟩<;>
  simp[Instr.sliceAt,Instr.slice,run_underlying ht,Instr.sliceBounds,Instr.sliceBound,asIntOf,sizeOf,typeInfo,hi,cM,e1,e2,e3,e4,h1,h2,Nat.not_lt.2 h1,Nat.not_lt.2 h2,Nat.not_lt.2 (Yu h1 h2),Yu h1 h2]
omit hd in
theorem Is {P:Program}{t e sz:Nat}{ie:TypeInfo}(ht:P.underlying t=some (.slice e))(hi:P.info? e=some ie)(cM:ie.size=sz)(w:World)(a:Option Addr)(len cap:Nat)(k1 k2 k3:IntKind)(l h m:Nat)
 (h1:l≤h) (h2:h≤m) (h3:m≤cap):∃v,(Instr.sliceAt t (.slice a len cap) (some (.int k1 l)) (some (.int k2 h)) (some (.int k3 m))).run P w= .ok v w:=by
 have e1:(0:Int)≤(l:Int):=by omega
 have e2:(0:Int)≤(h:Int):=by omega
 have e3:(l:Int)≤(h:Int):=by omega
 have e4:(h:Int)≤(m:Int):=by omega
 have e5:(0:Int)≤(m:Int):=by omega
 have e6:(m:Int)≤(cap:Int):=by omega
 simp[Instr.sliceAt,Instr.slice,run_underlying ht,Instr.sliceBounds,Instr.sliceBound,asIntOf,sizeOf,typeInfo,hi,cM,e1,e2,e3,e4,e5,e6,h1,h2,h3]
omit hd in
theorem oG {s':FS}{a:Act}{w:World}{c:Cx}(hc:RealC X s' a w c){lo:Option Operand}{l:Nat}(h:GZ (lo.map (ev s'))=some l):((lo.map a.eval)=none∧l=0)∨∃k,lo.map a.eval=some (.int k l):=by
 cases lo with
 |none=>exact .inl ⟨rfl,by simpa[GZ]using h.symm⟩
 |some x=>
  right;simp only[Yg]at h ⊢;unfold GZ at h;split at h
  ·rename_i e;cases e
  ·rename_i k n e;have:=cY hc (XX.inj e);split at h
   ·rename_i h0;have h:=XX.inj h;exact⟨k,by rw[this,←h,Z3 h0]⟩
   ·cases h
  ·cases h
omit hd in
theorem oH {s':FS}{a:Act}{w:World}{c:Cx}(hc:RealC X s' a w c){lo:Option Operand}{len l:Nat}(h:G0 len (lo.map (ev s'))=some l):((lo.map a.eval)=none∧l=len)∨∃k,lo.map a.eval=some (.int k l):=by
 cases lo with
 |none=>exact .inl ⟨rfl,by simpa[G0]using h.symm⟩
 |some x=>
  right;simp only[Yg]at h ⊢;unfold G0 at h;split at h
  ·rename_i e;cases e
  ·rename_i k n e;have:=cY hc (XX.inj e);split at h
   ·rename_i h0;have h:=XX.inj h;exact⟨k,by rw[this,←h,Z3 h0]⟩
   ·cases h
  ·cases h
omit hd in
theorem vQ {s':FS}{lo:Option Operand}(h:∀x,lo=some x→ev s' x=ev s x):lo.map (ev s')=lo.map (ev s):=by
 cases lo with
 |none=>rfl
 |some x=>simp[h x rfl]
theorem Iu {t e sz:Nat}{x:Operand}{lo hi:Option Operand}{ti te:TI}{rows:List (List D)}{l h:Nat}(ho:o.op= .slice t x lo hi none)(ht:aJ X.P t=some ti)(he':ti.elem=some e)(fT:aJ X.P e=some te)(cM:te.size=sz)
 (hx:ev s x= .d (.sl sz rows)) (jV:GZ (lo.map (ev s))=some l) (lX:G0 rows.length (hi.map (ev s))=some h) (h1:l≤h) (h2:h≤rows.length):bv X ops s o {pv:= .d (.sl sz ((rows.take h).drop l))}:=
 aB hd fun s' he _ a w c hc=>by
  have e1:=bF hc x;rw[he x (by simp[ho,Op.operands]),hx]at e1;rw[←vQ (s:=s) (s':=s') (fun y hy=>he y (by simp[ho,Op.operands,hy]))]at jV lX;have b1:=oG hc jV;have b2:=oH hc lX;generalize hu:a.eval x=u at e1;have e1:=bS e1;obtain⟨i,d,z,tk⟩:=gC ht;obtain⟨ie,de,ze,tke⟩:=gC fT;have jP:d= .slice e:=by
   have:=tk.elem;rw[he']at this;cases d<;>simp[fB]at this;rw[this]
  subst jP;cases e1 with
  |nil _ ao cap hm=>
   have hr:=oF tk.und tke.info (tke.size.trans cM) w ao 0 cap _ _ l h b1 b2 h1 (by simp at h2;omega);refine⟨_,by simp only[execOp,ho,hu,Zi];rw[Sem.run_bind,hr];rfl,.d _ _ ?_⟩;simp only[X8,Nat.le_zero]at h2;subst h2;simp only[YA,List.drop_nil];rw[Nat.zero_sub];exact .nil _ _ _ (by omega)
  |sl _ _ b off cap f hM hb gA hm hr h1' bY aY=>
   have hr':=oF tk.und tke.info (tke.size.trans cM) w (some ⟨b,off,none⟩) rows.length cap _ _ l h b1 b2 h1 (by omega);refine⟨_,by simp only[execOp,ho,hu,Zi];rw[Sem.run_bind,hr'];rfl,.d _ _ ?_⟩;have hl:((rows.take h).drop l).length=h - l:=by rw[XS,Xp];omega
   by_cases a0n:cap=l
   ·obtain rfl:h=l:=by omega
    have:(rows.take h).drop h=[]:=XZ (by rw[hl];omega);rw[this,Y8];exact .nil _ _ _ (by omega)
   ·rw[if_neg a0n,←hl];simp only[Yg,Addr.add_lit];have Gz:∀i row,((rows.take h).drop l)[i]? =some row→rows[l+i]? =some row:=by
     intro i row hi;rw[Yk]at hi;have:=(Xo.1 hi).1;rw[Xp]at this;rwa [XQ (by omega)]at hi
    refine .sl sz _ b (off+l*sz) (cap - l) (fun i j=>f (l+i) j) hM hb (by omega) (by omega) (fun r UT=>hr r (Yc (Yb UT))) (fun r UT=>h1' r (Yc (Yb UT))) (fun i j hi hj=>?_) (fun i j row d hi hj=>aY _ _ row d (Gz i row hi) hj);have:=bY (l+i) j (by omega) hj;rw[Zu]at this;rw[←this];congr 2;omega
theorem Ct {t e k g sz:Nat}{x:Operand}{lo hi:Option Operand}{ti te:TI}{rows:List (List PV)}{l h:Nat}(ho:o.op= .slice t x lo hi none)(ht:aJ X.P t=some ti)(he':ti.elem=some e)(fT:aJ X.P e=some te)(cM:te.size=sz)
 (hx:ev s x= .own k g) (hk:s.heap k= .row e sz g rows) (bH:rows≠[]) (jV:GZ (lo.map (ev s))=some l) (lX:G0 rows.length (hi.map (ev s))=some h) (h1:l≤h) (h2:h≤rows.length):bv X ops s o {pv:= .osl k g sz l (h - l),touch:=[k]}:=
 aB hd fun s' he gz a w c hc=>by
  have e1:=bF hc x;rw[he x (by simp[ho,Op.operands]),hx]at e1;rw[←vQ (s:=s) (s':=s') (fun y hy=>he y (by simp[ho,Op.operands,hy]))]at jV lX;have b1:=oG hc jV;have b2:=oH hc lX;have bD:=hc.chunk k;rw[gz k (by simp),hk]at bD;generalize hu:a.eval x=u at e1;obtain⟨i,d,z,tk⟩:=gC ht;obtain⟨ie,de,ze,tke⟩:=gC fT;have jP:d= .slice e:=by
   have:=tk.elem;rw[he']at this;cases d<;>simp[fB]at this;rw[this]
  subst jP;cases e1 with
  |own _ _ _ ed sK=>
   obtain⟨b,cap,rfl⟩:=ml bD ed bH;obtain⟨cur,xs,q1,q2,q3,q4,q5,q6,q7,q8,q9,q10,q11⟩:=dV bD ed bH;have hr':=oF tk.und tke.info (tke.size.trans cM) w (some ⟨b,0,none⟩) rows.length cap _ _ l h b1 b2 h1 (by omega);refine⟨_,by simp only[execOp,ho,hu,Zi];rw[Sem.run_bind,hr'];rfl,?_⟩;by_cases gA:cap=l
   ·rw[if_pos gA];exact .osl k g sz l (h - l) b 0 _ cap ed (by omega) q10 (by omega)
   ·rw[if_neg gA];simp only[Yg,Addr.add_lit,XK];exact .osl k g sz l (h - l) b _ _ cap ed (by omega) q10 (fun _=>rfl)
theorem AP {t e k g sz:Nat}{x:Operand}{lo hi:Option Operand}{ti te:TI}(ho:o.op= .slice t x lo hi none)(ht:aJ X.P t=some ti)(he':ti.elem=some e)(fT:aJ X.P e=some te)(cM:te.size=sz)
 (hx:ev s x= .own k g) (hk:s.heap k= .row e sz g []) (jV:GZ (lo.map (ev s))=some 0) (lX:G0 0 (hi.map (ev s))=some 0):bv X ops s o {pv:= .any,touch:=[k]}:=
 aB hd fun s' he gz a w c hc=>by
  have e1:=bF hc x;rw[he x (by simp[ho,Op.operands]),hx]at e1;rw[←vQ (s:=s) (s':=s') (fun y hy=>he y (by simp[ho,Op.operands,hy]))]at jV lX;have b1:=oG hc jV;have b2:=oH hc lX;have bD:=hc.chunk k;rw[gz k (by simp),hk]at bD;generalize hu:a.eval x=u at e1;obtain⟨i,d,z,tk⟩:=gC ht;obtain⟨ie,de,ze,tke⟩:=gC fT;have jP:d= .slice e:=by
   have:=tk.elem;rw[he']at this;cases d<;>simp[fB]at this;rw[this]
  subst jP;cases e1 with
  |own _ _ _ ed sK=>
   cases bD with
   |row _ _ _ _ u' xs hu' bt hr RH h1 hg=>
    rw[ed]at hu';cases hu';obtain⟨ao,cap,rfl⟩:∃ao cap,u= .slice ao 0 cap:=by
     simp only[X8]at bt;generalize hz:0=z at bt;cases bt with
     |nil=>exact⟨_,_,rfl⟩
     |zero=>exact⟨_,_,rfl⟩
     |row=>subst hz;exact⟨_,_,rfl⟩
    have hr':=oF tk.und tke.info (tke.size.trans cM) w ao 0 cap _ _ 0 0 b1 b2 (XC _) (XL _);exact⟨_,by simp only[execOp,ho,hu,Zi];rw[Sem.run_bind,hr'];rfl,.any _⟩
theorem Cu {t e k g sz st n:Nat}{x:Operand}{lo hi:Option Operand}{ti te:TI}{rows:List (List PV)}{l h:Nat}(ho:o.op= .slice t x lo hi none)(ht:aJ X.P t=some ti)(he':ti.elem=some e)(fT:aJ X.P e=some te)(cM:te.size=sz)
 (hx:ev s x= .osl k g sz st n) (hk:s.heap k= .row e sz g rows) (bH:rows≠[]) (jV:GZ (lo.map (ev s))=some l) (lX:G0 n (hi.map (ev s))=some h) (h1:l≤h) (h2:st+h≤rows.length):bv X ops s o {pv:= .osl k g sz (st+l) (h - l),touch:=[k]}:=
 aB hd fun s' he gz a w c hc=>by
  have e1:=bF hc x;rw[he x (by simp[ho,Op.operands]),hx]at e1;rw[←vQ (s:=s) (s':=s') (fun y hy=>he y (by simp[ho,Op.operands,hy]))]at jV lX;have b1:=oG hc jV;have b2:=oH hc lX;have bD:=hc.chunk k;rw[gz k (by simp),hk]at bD;generalize hu:a.eval x=u at e1;obtain⟨i,d,z,tk⟩:=gC ht;obtain⟨ie,de,ze,tke⟩:=gC fT;have jP:d= .slice e:=by
   have:=tk.elem;rw[he']at this;cases d<;>simp[fB]at this;rw[this]
  subst jP;cases e1 with
  |osl _ _ _ _ _ b oo N cap ed hn Sr Ox=>
   obtain⟨cur,xs,q1,q2,q3,q4,q5,q6,q7,q8,q9,q10,q11⟩:=dV bD ed bH;have hr':=oF tk.und tke.info (tke.size.trans cM) w (some ⟨b,oo,none⟩) n (cap - st) _ _ l h b1 b2 h1 (by omega);refine⟨_,by simp only[execOp,ho,hu,Zi];rw[Sem.run_bind,hr'];rfl,?_⟩;rw[Nat.sub_sub];by_cases gA:cap - st=l
   ·rw[if_pos gA];exact .osl k g sz (st+l) (h - l) b oo _ cap ed (by omega) q10 (by omega)
   ·rw[if_neg gA];simp only[Yg,Addr.add_lit];exact .osl k g sz (st+l) (h - l) b _ _ cap ed (by omega) q10 (fun hlt=>by rw[Ox (by omega),Zu])
theorem Iv {t e k g sz:Nat}{x y1 y2 y3:Operand}{ti te:TI}{rows:List (List PV)}{k1 k2 k3:IntKind}{n1 n2 n3:Int}(ho:o.op= .slice t x (some y1) (some y2) (some y3))(ht:aJ X.P t=some ti)(he':ti.elem=some e)(fT:aJ X.P e=some te)(cM:te.size=sz)
 (hx:ev s x= .own k g) (hk:s.heap k= .row e sz g rows) (bH:rows≠[]) (RJ:ev s y1= .d (.v (.int k1 n1))) (T6:ev s y2= .d (.v (.int k2 n2))) (hy3:ev s y3= .d (.v (.int k3 n3))) (h0:0≤n1) (h1:n1≤n2) (h2:n2≤n3) (h3:n3≤(rows.length:Int)):
 bv X ops s o {pv:= .any,touch:=[k]}:=
 aB hd fun s' he gz a w c hc=>by
  have e1:=bF hc x;rw[he x (by simp[ho,Op.operands]),hx]at e1;have b1:=cY hc ((he y1 (by simp[ho,Op.operands])).trans RJ);have b2:=cY hc ((he y2 (by simp[ho,Op.operands])).trans T6);have b3:=cY hc ((he y3 (by simp[ho,Op.operands])).trans hy3);have bD:=hc.chunk k;rw[gz k (by simp),hk]at bD;generalize hu:a.eval x=u at e1;obtain⟨i,d,z,tk⟩:=gC ht;obtain⟨ie,de,ze,tke⟩:=gC fT;have jP:d= .slice e:=by
   have:=tk.elem;rw[he']at this;cases d<;>simp[fB]at this;rw[this]
  subst jP;cases e1 with
  |own _ _ _ ed sK=>
   obtain⟨b,cap,rfl⟩:=ml bD ed bH;obtain⟨cur,xs,q1,q2,q3,q4,q5,q6,q7,q8,q9,q10,q11⟩:=dV bD ed bH;obtain⟨v,hr⟩:=Is tk.und tke.info (tke.size.trans cM) w (some ⟨b,0,none⟩) rows.length cap k1 k2 k3 n1.toNat n2.toNat n3.toNat (by omega) (by omega) (by omega);rw[Z3 h0,Z3 (by omega),Z3 (by omega)]at hr;exact⟨v,by simp only[execOp,ho,hu,Yg,b1,b2,b3];rw[Sem.run_bind,hr];rfl,.any _⟩
theorem Iw {t k g sz st n:Nat}{x:Operand}{e:Nat}{ti:TI}(ho:o.op= .call {callee:= .builtin .len,args:=#[x],argTypes:=#[t]})(ht:aJ X.P t=some ti)(he':ti.elem=some e)(hx:ev s x= .osl k g sz st n):
 bv X ops s o {pv:= .d (.v (.int .i64 n))}:=
 aB hd fun s' he _ a w c hc=>by
  have e1:=bF hc x;rw[he x (by simp[ho,Op.operands,Call.operands]),hx]at e1;generalize hu:a.eval x=u at e1;obtain⟨i,dd,z,tk⟩:=gC ht;have jP:dd= .slice e:=by
   have:=tk.elem;rw[he']at this;cases dd<;>simp[fB]at this;rw[this]
  subst jP;cases e1 with
  |osl=>
   refine⟨.int .i64 n,?_,.d _ _ (.v _)⟩;simp[execOp,ho,hu,resolve,invoke,builtin,Builtin.len_,run_underlying tk.und,goInt]
theorem Cv {t e k g sz st m:Nat}{x y:Operand}{ti te:TI}{kd:IntKind}{n:Int}(ho:o.op= .indexAddr t x y)(ht:aJ X.P t=some ti)(he':ti.elem=some e)(fT:aJ X.P e=some te)(cM:te.size=sz)
 (hx:ev s x= .osl k g sz st m) (hy:ev s y= .d (.v (.int kd n))) (hn:0≤n) (hlt:n.toNat < m):bv X ops s o {pv:= .rp k g sz (st+n.toNat) 0}:=
 aB hd fun s' he _ a w c hc=>by
  have e1:=bF hc x;rw[he x (by simp[ho,Op.operands]),hx]at e1;have e2:=cY hc ((he y (by simp[ho,Op.operands])).trans hy);generalize hu:a.eval x=u at e1;obtain⟨i,d,z,tk⟩:=gC ht;obtain⟨ie,de,ze,tke⟩:=gC fT;have jP:d= .slice e:=by
   have:=tk.elem;rw[he']at this;cases d<;>simp[fB]at this;rw[this]
  subst jP;cases e1 with
  |osl _ _ _ _ _ b oo N cap ed hnn Sr Ox=>
   have sD:0≤n∧n < (m:Int):=⟨hn,by omega⟩;refine⟨.pointer (some ⟨b,(st+n.toNat)*sz+0,none⟩),?_,.rp k g sz _ _ b _ cap ed⟩;rw[Zu,←Ox (by omega)];simp[execOp,ho,hu,e2,Instr.indexAt,asIntOf,run_underlying tk.und,sD,sizeOf,typeInfo,tke.info,tke.size,cM,Addr.add_lit]
end
def kl:List (List Int × Int)→List Int→Option Int
 |[],_=>none
 |(k,v)::l,ks=>if k=ks then some v else kl l ks
def mo:List (List Int × Int)→List Int→Int→List (List Int × Int)
 |[],ks,v=>[(ks,v)]
 |(k,x)::l,ks,v=>if k=ks then (ks,v)::l else (k,x)::mo l ks v
theorem fZ:∀(l:List (List Int × Int)) (ks:List Int) (v:Int) (ks':List Int),kl (mo l ks v) ks'=if ks=ks' then some v else kl l ks'
 |[],ks,v,ks'=>rfl
 |(k,x)::l,ks,v,ks'=>by
  unfold mo;by_cases h:k=ks
  ·subst h;rw[if_pos rfl];by_cases h':k=ks'
   ·simp[kl,h']
   ·simp[kl,h']
  ·rw[if_neg h];unfold kl;rw[fZ l ks v ks'];by_cases h':k=ks'
   ·subst h';simp[Ne.symm h]
   ·simp[h']
theorem G1 {n:Nat}:∀{l:List (List Int × Int)}{ks:List Int}{v:Int},(∀kv∈l,kv.1.length=n)→ks.length=n→∀kv∈mo l ks v,kv.1.length=n
 |[],ks,v,_,hk=>fun kv h=>by simp[mo]at h;rw[h];exact hk
 |(k,x)::l,ks,v,hl,hk=>fun kv h=>by
  unfold mo at h;split at h
  ·rcases XY.1 h with rfl|h
   ·exact hk
   ·exact hl kv (by simp[h])
  ·rcases XY.1 h with rfl|h
   ·exact hl _ (by simp)
   ·exact G1 (fun kv h=>hl kv (by simp[h])) hk kv h
def qB:List (List Int × Int)→List Int→Nat→Option (Nat × Value)
 |[],_,_=>none
 |(k,v)::l,ks,i=>if k=ks then some (i,.int .i64 v)else qB l ks (i+1)
theorem G3:∀(l:List (List Int × Int)) (ks:List Int) (i:Nat),(qB l ks i).map (·.2)=(kl l ks).map (.int .i64)
 |[],_,_=>rfl
 |(k,v)::l,ks,i=>by
  unfold qB kl;split
  ·rfl
  ·exact G3 l ks (i+1)
theorem zq (s:Bool):∀(l:List (List Int × Int)) (ks:List Int) (v:Int) (i j:Nat) (u:Value),qB l ks i=some (j,u)→i≤j∧(∃e,(aX s l i)[j - i]? =some e∧e.key=iH s ks)∧(aX s l i).modify (j - i) (fun e=>{e with key:=iH s ks,val:= .int .i64 v})=aX s (mo l ks v) i∧(mo l ks v).length=l.length
 |[],_,_,_,_,_,h=>by cases h
 |(k,x)::l,ks,v,i,j,u,h=>by
  unfold qB at h;by_cases hk:k=ks
  ·rw[if_pos hk]at h;cases h;subst hk;refine⟨XC _,⟨_,by rw[Y8];rfl,rfl⟩,?_,?_⟩
   ·rw[Y8];simp[aX,mo]
   ·simp[mo]
  ·rw[if_neg hk]at h;obtain⟨h1,⟨e,h2,h3⟩,h4,h5⟩:=zq s l ks v (i+1) j u h;have hj:j - i=(j - (i+1))+1:=by omega
   refine⟨by omega,⟨e,by rw[hj];simpa[aX]using h2,h3⟩,?_,?_⟩
   ·rw[hj];unfold mo;rw[if_neg hk];simp only[aX,List.modify_succ_cons];rw[h4]
   ·unfold mo;rw[if_neg hk];simp[h5]
theorem zr (s:Bool):∀(l:List (List Int × Int)) (ks:List Int) (v:Int) (i:Nat),qB l ks i=none→aX s (mo l ks v) i=aX s l i++[{key:=iH s ks,val:= .int .i64 v,born:=i+l.length}]∧(mo l ks v).length=l.length+1
 |[],_,_,_,_=>⟨rfl,rfl⟩
 |(k,x)::l,ks,v,i,h=>by
  unfold qB at h;by_cases hk:k=ks
  ·rw[if_pos hk]at h;cases h
  ·rw[if_neg hk]at h;obtain⟨h1,h2⟩:=zr s l ks v (i+1) h;unfold mo;rw[if_neg hk];simp only[aX,h1,X6,XD,h2,and_true];rw[show i+1+l.length=i+(l.length+1) by omega]
structure KeyOK (P:Program)(k n:Nat)(s:Bool):Prop where
 chk:∀(em:Bool) (w:World) (xs:List Int),xs.length=n→(Instr.checkKey em 10000 k (iH s xs)).run P w= .ok () w
 fnd:∀(w:World) (ents:List (List Int × Int)) (xs:List Int),(∀kv∈ents,kv.1.length=n)→xs.length=n→(Instr.findKey k (iH s xs) (aX s ents 0)).run P w= .ok (qB ents xs 0) w
structure MapOK (P:Program)(t n:Nat)(s:Bool):Prop where
 ex:∃k e i,P.underlying t=some (.map k e)∧P.info? e=some i∧i.zero=some (.int .i64 0)∧KeyOK P k n s
theorem Fr {xs:List Int}(h:xs.length=1):∃a,xs=[a]:=by
 match xs,h with
 |[a],_=>exact⟨a,rfl⟩
theorem Ix {P:Program}{k:Nat}(hk:P.underlying k=some (.int .i64)):KeyOK P k 1 false:=by
 refine⟨fun em w xs hx=>?_,fun w ents xs hn hx=>?_⟩
 ·obtain⟨a,rfl⟩:=Fr hx;exact MapKept.run_checkKey hk (by simp[iH,MapKept.IsKey]) em 9999
 ·obtain⟨a,rfl⟩:=Fr hx;refine MapKept.run_findKey hk ?_;have:∀(l:List (List Int × Int)) (i:Nat),(∀kv∈l,kv.1.length=1)→Instr.findNow (.int .i64) (.int .i64 a) (aX false l i) i=some (qB l [a] i):=by
   intro l;induction l with
   |nil=>intro i _;rfl
   |cons kv l ih=>
    intro i hl;obtain⟨k,v⟩:=kv;obtain⟨c,rfl⟩:=Fr (hl (k,v) (by simp));have ih:=ih (i+1) (fun kv h=>hl kv (by simp[h]));by_cases h:c=a
    ·subst h;simp[aX,qB,Instr.findNow,Instr.sameNow,iH]
    ·have h':(a==c)=false:=by simpa using fun e=>h e.symm
     simp[aX,qB,Instr.findNow,Instr.sameNow,iH,h,ih];rw[h']
  exact this ents 0 hn
theorem Lu {P:Program}{k n:Nat}(hw:(match P.underlying k with|some (.array _ _)|some (.struct _)=>true|_=>false)=true)(hc:∀(em:Bool) (w:World) (xs:List Int),xs.length=n→(Instr.checkKey em 10000 k (iH true xs)).run P w= .ok () w)
 (he:∀(w:World) (xs ys:List Int),xs.length=n→ys.length=n→(Op.equal k (iH true xs) (iH true ys)).run P w= .ok (xs==ys) w):KeyOK P k n true:=by
 refine⟨hc,fun w ents xs hn hx=>?_⟩;rw[run_findKey_eq w hw];have:∀(l:List (List Int × Int)) (i:Nat),(∀kv∈l,kv.1.length=n)→(Instr.findAsking k (iH true xs) (aX true l i) i).run P w= .ok (qB l xs i) w:=by
  intro l;induction l with
  |nil=>intro i _;rfl
  |cons kv l ih=>
   intro i hl;obtain⟨k',v⟩:=kv;have ih:=ih (i+1) (fun kv h=>hl kv (by simp[h]));have h0:=he w xs k' hx (hl (k',v) (by simp));simp only[aX,Instr.findAsking];rw[Sem.run_bind,h0];simp only[Result.andThen,qB];by_cases h:k'=xs
   ·subst h;simp
   ·have h':(xs==k')=false:=by simpa using fun e=>h e.symm
    rw[h',if_neg h];exact ih
 exact this ents 0 hn
theorem zt {P:Program}{t k e:Nat}(ht:P.underlying t=some (.map k e))(hk:P.underlying k=some (.int .i64))(hz:(P.info? e).map (·.zero)=some (some (.int .i64 0))):MapOK P t 1 false:=by
 obtain⟨i,hi,hz⟩:=XG.1 hz;exact⟨k,e,i,ht,hi,hz,Ix hk⟩
theorem Fs {P:Program}{t n b:Nat}{s:Bool}(hm:MapOK P t n s){w:World}{ents:List (List Int × Int)}(hb:w.heap[b]? =some (.map (aX s ents 0).toArray ents.length))(hn:∀kv∈ents,kv.1.length=n){xs:List Int}(hx:xs.length=n)(ok:Bool):
 (Instr.lookup t (.map (some b)) (iH s xs) ok).run P w= .ok (if ok then .tuple #[.int .i64 ((kl ents xs).getD 0),.bool (kl ents xs).isSome]else .int .i64 ((kl ents xs).getD 0)) w:=by
 obtain⟨k,e,i,ht,hi,hz,hk⟩:=hm.ex;have hl:=G3 ents xs 0;unfold Instr.lookup;simp only[Sem.run_bind,run_underlying ht,Result.andThen,MapKept.run_getObj_map hb,Sem.run_pure,hk.chk _ _ _ hx,hk.fnd _ _ _ hn hx];cases hf:qB ents xs 0 with
 |none=>
  rw[hf]at hl;have hl':kl ents xs=none:=by
   cases h:kl ents xs with
   |none=>rfl
   |some v=>rw[h]at hl;cases hl
  rw[hl'];simp only[Sem.run_bind,zeroValue,typeInfo,run_program,hi,hz,Result.andThen,Sem.run_pure];cases ok<;>rfl
 |some iv=>
  rw[hf]at hl;cases h:kl ents xs with
  |none=>rw[h]at hl;cases hl
  |some v=>
   rw[h]at hl;simp only[Yg,XX.injEq]at hl;simp only[Sem.run_pure,Result.andThen,hl];cases ok<;>rfl
theorem AQ (s:Bool)(xs:List Int):Instr.sameBits 10000 (iH s xs) (iH s xs)=true:=by
 cases s with
 |false=>simp[iH,Instr.sameBits]
 |true=>
  have:∀(l:List Int),((l.map (Value.int .i64)).zip (l.map (Value.int .i64))).all (fun(x,y)=>Instr.sameBits 9999 x y)=true:=by
   intro l;induction l with
   |nil=>rfl
   |cons a l ih=>simp only[Xm,List.zip_cons_cons,List.all_cons,ih,Yz];simp[Instr.sameBits]
  simp only[iH,if_true,Instr.sameBits,beq_self_eq_true,YC];exact this xs
theorem yt {P:Program}{t n b:Nat}{s:Bool}(hm:MapOK P t n s){w:World}{ents:List (List Int × Int)}(hb:w.heap[b]? =some (.map (aX s ents 0).toArray ents.length))(hn:∀kv∈ents,kv.1.length=n){xs:List Int}(hx:xs.length=n)(v:Int):
 (Instr.mapUpdate t (.map (some b)) (iH s xs) (.int .i64 v)).run P w= .ok () {w with heap:=w.heap.setIfInBounds b (.map (aX s (mo ents xs v) 0).toArray (mo ents xs v).length)}:=by
 obtain⟨k,e,i,ht,hi,hz,hk⟩:=hm.ex;unfold Instr.mapUpdate;simp only[Sem.run_bind,run_underlying ht,Result.andThen,MapKept.run_getObj_map hb,hk.chk _ _ _ hx,hk.fnd _ _ _ hn hx];cases hf:qB ents xs 0 with
 |none=>
  obtain⟨h1,h2⟩:=zr s ents xs v 0 hf;simp only[MapKept.run_setObj_map _ hb];rw[h1,h2];simp
 |some iv=>
  obtain⟨j,u⟩:=iv;obtain⟨-,⟨e0,h2,h3⟩,h4,h5⟩:=zq s ents xs v 0 j u hf;rw[Yr]at h2 h4;have h6:(aX s ents 0).toArray[j]? =some e0:=by simpa using h2
  simp only[Sem.run_bind,h6,Yg,Yy,h3,Instr.keyThatStays,AQ,if_true,Sem.run_pure,Result.andThen,MapKept.run_setObj_map _ hb];rw[h5,←h4];simp
def Ft (s:Bool)(p:PV):Option (List Int):=
 match s,p with
 |false,.d (.v (.int .i64 a))=>some [a]
 |true,.d (.agg ds)=>p7 ds
 |_,_=>none
theorem Cw {c:Cx}{w:World}{s:Bool}{p:PV}{xs:List Int}{v:Value}(h:Ft s p=some xs)(hr:RepP c w p v):v=iH s xs:=by
 unfold Ft at h;split at h
 ·cases h;cases hr with|d _ _ hd=>cases hd;rfl
 ·cases hr with
  |d _ _ hd=>
   cases hd with
   |agg _ vs hl h1 aY=>
    rw[rA (xs:=xs) ⟨hl,aY⟩ h];simp[iH]
 ·cases h
theorem RealC.new_map {X:Cfg}{s:FS}{a:Act}{w:World}{c:Cx}(h:RealC X s a w c){k:Nat}(hk:s.heap k= .none)(uF:¬k < X.m)(n:Nat)(sB:Bool):
 ∃c',RealC X {s with heap:=cz [(k,.mp n sB [])] s.heap} a (w.alloc (.map #[] 0)) c'∧RepP c' (w.alloc (.map #[] 0)) (.mref k) (.map (some w.heap.size)):=by
 have bD:=h.chunk k;rw[hk]at bD;cases bD with
 |none GC VO=>
  have hx:=iS w (.map #[] 0);have dv:(fun k'=>if k'=k then some w.heap.size else c.bl k') k=some w.heap.size:=if_pos rfl;refine⟨{M:=fun b=>c.M b∨b=w.heap.size,bl:=fun k'=>if k'=k then some w.heap.size else c.bl k',ov:=c.ov},?_,.mref k _ dv⟩;have hle:c.le {M:=fun b=>c.M b∨b=w.heap.size,bl:=fun k'=>if k'=k then some w.heap.size else c.bl k',ov:=c.ov}:=
   ⟨fun k' b hb=>by
    have:k'≠k:=fun e=>by subst e;rw[GC]at hb;cases hb
    show (if k'=k then some w.heap.size else c.bl k')=some b;rw[if_neg this];exact hb,fun _ _ _ h=>h⟩
  refine h.new_chunk hk uF hx hle (fun k' bH=>if_neg bH) (fun _ _=>rfl) (fun b=>?_) (fun b hb=>?_) (fun ol=>?_)
  ·simp only[Cx.block,if_true,XX.injEq];exact⟨fun h=>h.imp id Eq.symm,fun h=>h.imp id Eq.symm⟩
  ·simp only[Cx.block,if_true,XX.injEq]at hb;rw[size_alloc];omega
  ·exact .mp n sB [] w.heap.size dv (by simpa[aX]using jm w (.map #[] 0)) (fun _ h=>by simp at h)
theorem RealC.set_map {X:Cfg}{s:FS}{a:Act}{w:World}{c:Cx}(h:RealC X s a w c){k n b:Nat}{sB:Bool}{ents ents':List (List Int × Int)}(hk:s.heap k= .mp n sB ents)(hb:c.bl k=some b)(hh:w.heap[b]? =some (.map (aX sB ents 0).toArray ents.length))
 (hn:∀kv∈ents',kv.1.length=n):RealC X {s with heap:=cz [(k,.mp n sB ents')] s.heap} a {w with heap:=w.heap.setIfInBounds b (.map (aX sB ents' 0).toArray ents'.length)} c:=by
 have cV:c.block k (s.heap k)=some b:=by rw[hk];exact hb
 have fU:=MapKept.heap_set (o':= .map (aX sB ents' 0).toArray ents'.length) hh;refine h.turn c.le_refl rfl (fun _ _=>rfl) (fun _ _=>rfl) rfl rfl rfl (by simp) (fun b' _ hb'=>fU.2 b' (fun e=>hb' (by rw[e];exact cV))) (fun b'=>?_) (fun b' hb'=>?_) (fun ol=>?_)
 ·show c.M b'↔(c.M b'∧c.block k (s.heap k)≠some b')∨c.bl k=some b';rw[cV,hb];constructor
  ·intro hm;by_cases e:b=b'
   ·exact .inr (by rw[e])
   ·exact .inl ⟨hm,fun h=>e (XX.inj h)⟩
  ·rintro (⟨hm,_⟩|e)
   ·exact hm
   ·exact(h.mu b').2 (.inr ⟨k,by rw[cV];exact e⟩)
 ·have e:c.bl k=some b':=hb';refine⟨.inl (by rw[cV,←hb];exact e),?_⟩;simp only[Array.size_setIfInBounds];exact(h.new k b' (by rw[cV,←hb];exact e)).2
 ·exact .mp n sB ents' b hb fU.1 hn
section
variable {X:Cfg}{ops:Array Oper}{s:FS}{o:Oper}(hd:∀d,o.dst=some d→d < X.n)
include hd
theorem Fu {t nk n:Nat}{sB:Bool}(ho:o.op= .makeMap t none)(hk:s.heap nk= .none)(uF:¬nk < X.m):bv X ops s o {pv:= .mref nk,eff:=[(nk,.mp n sB [])],touch:=[nk]}:=
 dJ hd (fun kc h=>by simp at h;subst h;simp) fun s' he gz a w c hc=>by
  obtain⟨c',h1,h2⟩:=hc.new_map (k:=nk) (by rw[gz nk (by simp)];exact hk) uF n sB;refine⟨_,_,_,?_,.inl rfl,c',h1,h2⟩;simp only[execOp,ho,Zi];rw[Sem.run_bind,run_makeMap];rfl
theorem Iy {t k n:Nat}{sB ok:Bool}{m x:Operand}{ents:List (List Int × Int)}{xs:List Int}(ho:o.op= .lookup t m x ok)(hm:MapOK X.P t n sB)(VU:ev s m= .mref k)(hk:s.heap k= .mp n sB ents)(hx:Ft sB (ev s x)=some xs)(T7:xs.length=n):
 bv X ops s o {pv:=if ok then .d (.tup [.v (.int .i64 ((kl ents xs).getD 0)),.v (.bool (kl ents xs).isSome)])else .d (.v (.int .i64 ((kl ents xs).getD 0))),touch:=[k]}:=
 aB hd fun s' he gz a w c hc=>by
  have e1:=bF hc m;rw[he m (by simp[ho,Op.operands]),VU]at e1;have e2:=bF hc x;rw[he x (by simp[ho,Op.operands])]at e2;have e3:=Cw hx e2;have hk':s'.heap k= .mp n sB ents:=by rw[gz k (by simp)];exact hk
  have bD:=hc.chunk k;rw[hk']at bD;generalize hu:a.eval m=u at e1;cases e1 with
  |mref _ b hb=>
   cases bD with
   |mp _ _ _ b' hb' hh hn=>
    rw[hb]at hb';cases hb';have b9:=Fs hm hh hn T7 ok;refine⟨if ok then .tuple #[.int .i64 ((kl ents xs).getD 0),.bool (kl ents xs).isSome]else .int .i64 ((kl ents xs).getD 0),?_,?_⟩
    ·simp only[execOp,ho,hu,e3];rw[Sem.run_bind,b9];rfl
    ·cases ok with
     |false=>exact .d _ _ (.v _)
     |true=>
      refine .d _ _ (.tup _ [_,_] rfl ?_);intro j d y h1 h2;match j with
      |0=>simp at h1 h2;subst h1;subst h2;exact .v _
      |1=>simp at h1 h2;subst h1;subst h2;exact .v _
      |j+2=>simp at h1
theorem AR {t k n:Nat}{sB:Bool}{m x y:Operand}{ents:List (List Int × Int)}{xs:List Int}{v:Int}(ho:o.op= .mapUpdate t m x y∨o.op= .insert t m x y)(tW:o.dst=none)(hm:MapOK X.P t n sB)(VU:ev s m= .mref k)(hk:s.heap k= .mp n sB ents)(hx:Ft sB (ev s x)=some xs)(T7:xs.length=n)
 (hy:ev s y= .d (.v (.int .i64 v))):bv X ops s o {pv:= .any,eff:=[(k,.mp n sB (mo ents xs v))],touch:=[k]}:=
 dJ hd (fun kc h=>by simp at h;subst h;simp) fun s' he gz a w c hc=>by
  have fl:m∈o.op.operands∧x∈o.op.operands∧y∈o.op.operands:=by rcases ho with ho|ho<;>simp[ho,Op.operands]
  have e1:=bF hc m;rw[he m fl.1,VU]at e1;have e2:=bF hc x;rw[he x fl.2.1]at e2;have e3:=Cw hx e2;have e4:=bF hc y;rw[he y fl.2.2,hy]at e4;have hk':s'.heap k= .mp n sB ents:=by rw[gz k (by simp)];exact hk
  have bD:=hc.chunk k;rw[hk']at bD;generalize hu:a.eval m=u at e1;generalize hv:a.eval y=vy at e4;cases e4 with
  |d _ _ e4=>
  cases e4;cases e1 with
  |mref _ b hb=>
   cases bD with
   |mp _ _ _ b' hb' hh hn=>
    rw[hb]at hb';cases hb';have b9:=yt hm hh hn T7 v;have h3:=hc.set_map hk' hb hh (G1 (v:=v) hn T7);refine⟨.skip,undef,_,?_,.inr ⟨rfl,rfl⟩,c,h3,.any _⟩;rcases ho with ho|ho
    ·simp only[execOp,ho,hu,hv,e3];rw[Sem.run_bind,b9];rfl
    ·simp only[execOp,ho,hu,hv,e3];rw[Sem.run_bind,b9];rfl
end
def vR (P:Program)(f:Nat):Prop:=∀(args:Array Value) (w:World),(callFunc f args).run P w= .ok (.enter f args) w
def ae (P:Program)(f:Nat)(args:List D)(r:D):Prop:=
 vR P f∧∀(M:Nat→Prop) (w:World) (vs:List Value),(∀b,M b→b < w.heap.size)→yo M w→co M w args vs→Calls P f vs.toArray w fun e w'=>∃v,e= .returned v∧RepD M w' r v∧cW w w'
def D.isV:D→Bool
 | .v _=>true
 |_=>false
def D.flat:D→Bool
 | .v _=>true
 | .agg l=>l.all D.isV
 | .tup l=>l.all fun d=>match d with| .v _=>true| .agg l=>l.all D.isV|_=>false
 |_=>false
theorem G4 {M M':Nat→Prop}{w w':World}{d:D}{v:Value}(h:RepD M w d v)(hf:d.isV=true):RepD M' w' d v:=by
 cases d<;>simp[D.isV]at hf;cases h;exact .v _
theorem Lv {M M':Nat→Prop}{w w':World}{d:D}{v:Value}(h:RepD M w d v)(hf:d.flat=true):RepD M' w' d v:=by
 cases h with
 |v=>exact .v _
 |agg cells vs hl h1 aY=>
  simp only[D.flat,XB]at hf;exact .agg cells vs hl h1 fun j d x hj hx=>G4 (aY j d x hj hx) (hf d (Xl hj))
 |tup ds vs hl aY=>
  simp only[D.flat,XB]at hf;refine .tup ds vs hl fun j d x hj hx=>?_;have h0:=aY j d x hj hx;have h1:=hf d (Xl hj);cases h0 with
  |v=>exact .v _
  |agg cells us hl' h1' pm=>
   simp only[XB]at h1;exact .agg cells us hl' h1' fun j d x hj hx=>G4 (pm j d x hj hx) (h1 d (Xl hj))
  |_=>simp at h1
 |_=>simp[D.flat]at hf
def cA (f:PV→Option D):List PV→Option (List D)
 |[]=>some []
 |p::l=>match f p,cA f l with|some d,some ds=>some (d::ds)|_,_=>none
def cZ (f:PV→Option D):List (List PV)→Option (List (List D))
 |[]=>some []
 |r::l=>match cA f r,cZ f l with|some d,some ds=>some (d::ds)|_,_=>none
def aS (h:Nat→Chunk):Nat→PV→Option D
 |_,.d x=>some x
 |n+1,.own k g=>match h k with| .row _ sz g' rows=>if g=g' then (cZ (aS h n) rows).map (.sl sz)else none|_=>none
 |n+1,.ptr k off=>match h k with| .box _ cells=>(cA (aS h n) (cells.drop off)).map .ept|_=>none
 |n+1,.rp k g sz i j=>match h k with| .row _ sz' g' rows=>if g=g'∧sz=sz' then (match rows[i]? with|some row=>(cA (aS h n) (row.drop j)).map .ept|none=>none)else none|_=>none
 |n+1,.osl k g sz a m=>match h k with| .row _ sz' g' rows=>if g=g'∧sz=sz'∧0 < rows.length then (cZ (aS h n) ((rows.drop a).take m)).map (.sl sz)else none|_=>none
 |n+1,.clo g caps=>(cA (aS h n) caps).map (.clo g)
 |n+1,.agg cells=>(cA (aS h n) cells).map .agg
 |n+1,.tup l=>(cA (aS h n) l).map .tup
 |_,_=>none
def iI (f:PV→List Nat):List PV→List Nat
 |[]=>[]
 |p::l=>f p++iI f l
def yu (f:PV→List Nat):List (List PV)→List Nat
 |[]=>[]
 |r::l=>iI f r++yu f l
def cO (h:Nat→Chunk):Nat→PV→List Nat
 |_,.d _=>[]
 |n+1,.own k _=>k::(match h k with| .row _ _ _ rows=>yu (cO h n) rows|_=>[])
 |n+1,.ptr k off=>k::(match h k with| .box _ cells=>iI (cO h n) (cells.drop off)|_=>[])
 |n+1,.rp k _ _ i j=>k::(match h k with| .row _ _ _ rows=>iI (cO h n) (((rows[i]?).getD []).drop j)|_=>[])
 |n+1,.osl k _ _ _ _=>k::(match h k with| .row _ _ _ rows=>yu (cO h n) rows|_=>[])
 |n+1,.clo _ caps=>iI (cO h n) caps
 |n+1,.agg cells=>iI (cO h n) cells
 |n+1,.tup l=>iI (cO h n) l
 |_,_=>[]
theorem nd (h:Nat→Chunk)(n:Nat)(x:D):aS h n (.d x)=some x:=by cases n<;>rfl
theorem Lw (h:Nat→Chunk)(n:Nat)(x:D):cO h n (.d x)=[]:=by cases n<;>rfl
theorem vj (h:Nat→Chunk)(n:Nat):∀(l:List D),cA (aS h n) (l.map .d)=some l
 |[]=>rfl
 |x::l=>by simp only[Xm,cA,nd,vj h n l]
theorem AS (h:Nat→Chunk)(n:Nat):∀(l:List D),iI (cO h n) (l.map .d)=[]
 |[]=>rfl
 |x::l=>by simp only[Xm,iI,Lw,AS h n l,Ya]
theorem d6 (h:Nat→Chunk)(n:Nat):∀(l:List (List D)),cZ (aS h n) (ab l)=some l
 |[]=>rfl
 |x::l=>by
  have:=d6 h n l;simp only[ab]at this;simp only[ab,Xm,cZ,vj,this]
theorem nf (h:Nat→Chunk)(n:Nat):∀(l:List (List D)),yu (cO h n) (ab l)=[]
 |[]=>rfl
 |x::l=>by
  have:=nf h n l;simp only[ab]at this;simp only[ab,Xm,yu,AS,this,Ya]
theorem eZ {f:PV→List Nat}:∀{l:List PV}{p:PV},p∈l→∀k∈f p,k∈iI f l
 |q::l,p,h,k,hk=>by
  rcases XY.1 h with rfl|h
  ·exact ZW _ hk
  ·exact List.mem_append_right _ (eZ h k hk)
theorem oI {f:PV→List Nat}:∀{l:List (List PV)}{r:List PV}{p:PV},r∈l→p∈r→∀k∈f p,k∈yu f l
 |q::l,r,p,h,hp,k,hk=>by
  rcases XY.1 h with rfl|h
  ·exact ZW _ (eZ hp k hk)
  ·exact List.mem_append_right _ (oI h hp k hk)
theorem fC {f f':PV→Option D}:∀{l:List PV},(∀p∈l,f' p=f p)→cA f' l=cA f l
 |[],_=>rfl
 |p::l,e=>by simp only[cA,e p (by simp),fC (l:=l) fun q hq=>e q (by simp[hq])]
theorem qC {f f':PV→Option D}:∀{l:List (List PV)},(∀r∈l,∀p∈r,f' p=f p)→cZ f' l=cZ f l
 |[],_=>rfl
 |r::l,e=>by simp only[cZ,fC (e r (by simp)),qC (l:=l) fun q hq=>e q (by simp[hq])]
theorem iT {f f':PV→List Nat}:∀{l:List PV},(∀p∈l,f' p=f p)→iI f' l=iI f l
 |[],_=>rfl
 |p::l,e=>by simp only[iI,e p (by simp),iT (l:=l) fun q hq=>e q (by simp[hq])]
theorem sV {f f':PV→List Nat}:∀{l:List (List PV)},(∀r∈l,∀p∈r,f' p=f p)→yu f' l=yu f l
 |[],_=>rfl
 |r::l,e=>by simp only[yu,iT (e r (by simp)),sV (l:=l) fun q hq=>e q (by simp[hq])]
theorem eR {h h':Nat→Chunk}:∀(n:Nat) (p:PV),(∀k∈cO h n p,h' k=h k)→aS h' n p=aS h n p∧cO h' n p=cO h n p
 |0,p,_=>by cases p<;>exact⟨rfl,rfl⟩
 |n+1,p,e=>by
  cases p with
  |own k g=>
   have hk:=e k (by simp[cO]);simp only[aS,cO,hk];cases hb:h k with
   |row E sz g' rows=>
    have key:∀r∈rows,∀q∈r,aS h' n q=aS h n q∧cO h' n q=cO h n q:=fun r hr q hq=>eR n q fun k' hk'=>e k' (by
     simp only[cO,hb,XY];exact .inr (oI hr hq k' hk'))
    simp only;rw[qC fun r hr q hq=>(key r hr q hq).1,sV fun r hr q hq=>(key r hr q hq).2];exact⟨rfl,rfl⟩
   |_=>exact⟨rfl,rfl⟩
  |ptr k off=>
   have hk:=e k (by simp[cO]);simp only[aS,cO,hk];cases hb:h k with
   |box T cells=>
    have key:∀q∈cells.drop off,aS h' n q=aS h n q∧cO h' n q=cO h n q:=fun q hq=>eR n q fun k' hk'=>e k' (by
     simp only[cO,hb,XY];exact .inr (eZ hq k' hk'))
    simp only;rw[fC fun q hq=>(key q hq).1,iT fun q hq=>(key q hq).2];exact⟨rfl,rfl⟩
   |_=>exact⟨rfl,rfl⟩
  |rp k g sz i j=>
   have hk:=e k (by simp[cO]);simp only[aS,cO,hk];cases hb:h k with
   |row E sz' g' rows=>
    have key:∀q∈((rows[i]?).getD []).drop j,aS h' n q=aS h n q∧cO h' n q=cO h n q:=fun q hq=>eR n q fun k' hk'=>e k' (by
     simp only[cO,hb,XY];exact .inr (eZ hq k' hk'))
    simp only;refine⟨?_,by rw[iT fun q hq=>(key q hq).2]⟩;cases H6:rows[i]? with
    |none=>rfl
    |some row=>
     rw[H6]at key;simp only[Yy]at key;simp only;rw[fC fun q hq=>(key q hq).1]
   |_=>exact⟨rfl,rfl⟩
  |osl k g sz a m=>
   have hk:=e k (by simp[cO]);simp only[aS,cO,hk];cases hb:h k with
   |row E sz g' rows=>
    have key:∀r∈rows,∀q∈r,aS h' n q=aS h n q∧cO h' n q=cO h n q:=fun r hr q hq=>eR n q fun k' hk'=>e k' (by
     simp only[cO,hb,XY];exact .inr (oI hr hq k' hk'))
    simp only;rw[qC (l:=(rows.drop a).take m) fun r hr q hq=>(key r (Yb (Yc hr)) q hq).1,sV fun r hr q hq=>(key r hr q hq).2];exact⟨rfl,rfl⟩
   |_=>exact⟨rfl,rfl⟩
  |clo g caps=>
   have key:∀q∈caps,aS h' n q=aS h n q∧cO h' n q=cO h n q:=fun q hq=>eR n q fun k' hk'=>e k' (eZ hq k' hk');simp only[aS,cO];rw[fC fun q hq=>(key q hq).1,iT fun q hq=>(key q hq).2];exact⟨rfl,rfl⟩
  |agg caps=>
   have key:∀q∈caps,aS h' n q=aS h n q∧cO h' n q=cO h n q:=fun q hq=>eR n q fun k' hk'=>e k' (eZ hq k' hk');simp only[aS,cO];rw[fC fun q hq=>(key q hq).1,iT fun q hq=>(key q hq).2];exact⟨rfl,rfl⟩
  |tup caps=>
   have key:∀q∈caps,aS h' n q=aS h n q∧cO h' n q=cO h n q:=fun q hq=>eR n q fun k' hk'=>e k' (eZ hq k' hk');simp only[aS,cO];rw[fC fun q hq=>(key q hq).1,iT fun q hq=>(key q hq).2];exact⟨rfl,rfl⟩
  |_=>exact⟨rfl,rfl⟩
def lF (c:Cx)(h:Nat→Chunk)(T:List Nat)(b:Nat):Prop:=c.M b∧∀k∈T,c.block k (h k)≠some b
theorem sW (c:Cx)(h:Nat→Chunk)(T:List Nat)(w:World):Keep c.M w (lF c h T) w:=⟨XC _,fun _ _ _=>rfl,fun _ _ h=>h.1⟩
theorem eH {f:PV→Option D}:∀{l:List PV}{ds:List D},cA f l=some ds→l.length=ds.length∧∀(j:Nat) (d:D),ds[j]? =some d→∃p,l[j]? =some p∧f p=some d
 |[],ds,h=>by simp[cA]at h;subst h;simp
 |p::l,ds,h=>by
  simp only[cA]at h;split at h
  ·rename_i d es h1 h2;cases h;obtain⟨q1,q2⟩:=eH h2;refine⟨by simp[q1],fun j e hj=>?_⟩;cases j with
   |zero=>simp at hj;subst hj;exact⟨p,rfl,h1⟩
   |succ j=>simpa using q2 j e (by simpa using hj)
  ·cases h
theorem vS {f:PV→Option D}:∀{l:List (List PV)}{ds:List (List D)},cZ f l=some ds→l.length=ds.length∧∀(j:Nat) (d:List D),ds[j]? =some d→∃p,l[j]? =some p∧cA f p=some d
 |[],ds,h=>by simp[cZ]at h;subst h;simp
 |p::l,ds,h=>by
  simp only[cZ]at h;split at h
  ·rename_i d es h1 h2;cases h;obtain⟨q1,q2⟩:=vS h2;refine⟨by simp[q1],fun j e hj=>?_⟩;cases j with
   |zero=>simp at hj;subst hj;exact⟨p,rfl,h1⟩
   |succ j=>simpa using q2 j e (by simpa using hj)
  ·cases h
theorem mq {h:Nat→Chunk}{n:Nat}{p:PV}{d:D}(hv:aS h n p=some d)(h1:p.one=true):d.one=true:=by
 cases p with
 |d x=>rw[nd]at hv;cases hv;exact h1
 |agg=>simp[PV.one]at h1
 |tup=>simp[PV.one]at h1
 |any=>simp[PV.one]at h1
 |own k g=>
  cases n with
  |zero=>cases hv
  |succ n=>
   simp only[aS]at hv;split at hv
   ·split at hv
    ·simp only[XG]at hv;obtain⟨_,_,rfl⟩:=hv;rfl
    ·cases hv
   ·cases hv
 |ptr k off=>
  cases n with
  |zero=>cases hv
  |succ n=>
   simp only[aS]at hv;split at hv
   ·simp only[XG]at hv;obtain⟨_,_,rfl⟩:=hv;rfl
   ·cases hv
 |rp k g sz i j=>
  cases n with
  |zero=>cases hv
  |succ n=>
   simp only[aS]at hv;split at hv
   ·split at hv
    ·split at hv
     ·simp only[XG]at hv;obtain⟨_,_,rfl⟩:=hv;rfl
     ·cases hv
    ·cases hv
   ·cases hv
 |clo g caps=>
  cases n with
  |zero=>cases hv
  |succ n=>simp only[aS,XG]at hv;obtain⟨_,_,rfl⟩:=hv;rfl
 |osl k g sz a m=>
  cases n with
  |zero=>cases hv
  |succ n=>
   simp only[aS]at hv;split at hv
   ·split at hv
    ·simp only[XG]at hv;obtain⟨_,_,rfl⟩:=hv;rfl
    ·cases hv
   ·cases hv
 |mref=>cases n<;>cases hv
theorem mr {w:World}{b:Nat}{o:Obj}(h:w.heap[b]? =some o):b < w.heap.size:=by
 rcases XO b w.heap.size with hl|hl
 ·exact hl
 ·rw[Yj hl]at h;cases h
section
variable {X:Cfg}{s:FS}{a:Act}{w:World}{c:Cx}(hc:RealC X s a w c){T:List Nat}
include hc
theorem kF:∀(n:Nat) {p:PV}{d:D}{v:Value},aS s.heap n p=some d→(∀k∈cO s.heap n p,k∈T)→RepP c w p v→RepD (lF c s.heap T) w d v
 |0,p,d,v,hv,ht,hr=>by
  cases p with
  |d x=>cases hv;exact(bS hr).keep (sW c s.heap T w)
  |_=>cases hv
 |n+1,p,d,v,hv,ht,hr=>by
  have many:∀(l:List PV) (ds:List D) (vs:List Value),cA (aS s.heap n) l=some ds→(∀k∈iI (cO s.heap n) l,k∈T)→bj c w l vs→co (lF c s.heap T) w ds vs:=by
   intro l ds vs dI hT hl;obtain⟨q1,q2⟩:=eH dI;refine⟨by rw[←q1];exact hl.1,fun j d x hj hx=>?_⟩;obtain⟨p,hp,xU⟩:=q2 j d hj;exact kF n xU (fun k hk=>hT k (eZ (Xl hp) k hk)) (hl.2 j p x hp hx)
  cases p with
  |d x=>rw[nd]at hv;cases hv;exact(bS hr).keep (sW c s.heap T w)
  |own k g=>
   simp only[aS]at hv;split at hv
   ·rename_i E sz g' rows hk;split at hv
    ·rename_i e;subst e;simp only[XG]at hv;obtain⟨drows,dI,rfl⟩:=hv;obtain⟨q1,q2⟩:=vS dI;have bD:=hc.chunk k;rw[hk]at bD;have hkT:k∈T:=ht k (by simp[cO]);have xS:∀r∈rows,∀p∈r,∀k'∈cO s.heap n p,k'∈T:=fun r hr p hp k' hk'=>ht k' (by
      simp only[cO,hk,XY];exact .inr (oI hr hp k' hk'))
     cases hr with
     |own _ _ _ ed _=>
      cases bD with
      |row _ _ _ _ u xs hu bt yg cM h1 hg=>
       rw[ed]at hu;cases hu;generalize hn:rows.length=n' at bt;have nilc:n'=0→drows=[]:=fun h0=>XZ (by omega);cases bt with
       |nil=>rw[nilc rfl];exact .nil sz none 0 (by omega)
       |zero ad=>rw[nilc rfl];exact .nil sz (some ad) 0 (by omega)
       |row gb _ cap cur _ h0 hh KE hm hs hl gx=>
        subst hn;have Kz:∀j,j < rows.length*sz→cur[j]? =xs[j]? :=by
         intro j hj;rw[←gx,XQ hj,X2]
        rw[q1];refine .sl sz drows gb 0 cap (fun i j=>xs.getD (i*sz+j) undef) (fun hm'=>hm'.2 k hkT (by rw[hk];simp[Cx.block,ed,cF h0])) (mr hh) (by omega) (by simpa[maxLen]using hm) (fun r hr=>?_) (fun r hr d hd=>?_) (fun i j hi hj=>?_) (fun i j row d hi hj=>?_)
        ·obtain⟨j,hj,e⟩:=X9 hr;obtain⟨p,hp,xU⟩:=q2 j r (by rw[←e];exact Xj hj);rw[←(eH xU).1];exact cM p (Xl hp)
        ·obtain⟨j,hj,e⟩:=X9 hr;obtain⟨p,hp,xU⟩:=q2 j r (by rw[←e];exact Xj hj);obtain⟨j2,KH,e2⟩:=X9 hd;obtain⟨p2,Oy,GE⟩:=(eH xU).2 j2 d (by rw[←e2];exact Xj KH);exact mq GE (h1 p (Xl hp) p2 (Xl Oy))
        ·have hij:i*sz+j < rows.length*sz:=by
          have:(i+1)*sz≤rows.length*sz:=Yo sz (by omega);rw[YI]at this;omega
         rw[XK];simp only[YQ,hh,Kz _ hij];simp[XE,Xj (show i*sz+j < xs.length by omega)]
        ·obtain⟨p,hp,xU⟩:=q2 i row hi;obtain⟨p2,Oy,GE⟩:=(eH xU).2 j d hj;have hi':i < rows.length:=(Xo.1 hp).1;have hj':j < sz:=by rw[←cM p (Xl hp)];exact(Xo.1 Oy).1
         have hij:i*sz+j < rows.length*sz:=by
          have:(i+1)*sz≤rows.length*sz:=Yo sz hi';rw[YI]at this;omega
         have hx:xs[i*sz+j]? =some xs[i*sz+j]:=Xj (by omega);have:=yg.2 (i*sz+j) p2 _ (by rw[cr cM i j hj',hp];exact Oy) hx;have:=kF n GE (xS p (Xl hp) p2 (Xl Oy)) this;simpa[XE,hx]using this
    ·cases hv
   ·cases hv
  |ptr k off=>
   simp only[aS]at hv;split at hv
   ·rename_i TT cells hk;simp only[XG]at hv;obtain⟨ds,dI,rfl⟩:=hv;have bD:=hc.chunk k;rw[hk]at bD;cases hr with
    |ptr _ _ b hb=>
     cases bD with
     |box _ _ b' vs hb' hh yg h1=>
      rw[hb]at hb';cases hb';have Pc:bj c w (cells.drop off) (vs.drop off):=⟨by rw[XS,XS,yg.1],fun j d x hj hx=>by
       rw[Yk]at hj hx;exact yg.2 _ d x hj hx⟩
      have hm:=many _ ds _ dI (fun k' hk'=>ht k' (by simp only[cO,hk,XY];exact .inr hk')) Pc;obtain⟨q1,q2⟩:=eH dI;refine .ept ds b off (fun j=>(vs.drop off).getD j undef) (fun hm'=>hm'.2 k (ht k (by simp[cO])) (by rw[hk];exact hb)) (mr hh) (fun d hd=>?_) (fun j hj=>?_) (fun j d hj=>?_)
      ·obtain⟨j,hj,e⟩:=X9 hd;obtain⟨p,hp,xU⟩:=q2 j d (by rw[←e];exact Xj hj);exact mq xU (h1 p (Yb (Xl hp)))
      ·have hl:off+j < vs.length:=by have:=Pc.1;rw[XS,XS]at this;rw[←q1,XS]at hj;have:=yg.1;omega
       simp[YQ,hh,XE,Yk,Xj hl]
      ·have hl:j < (vs.drop off).length:=by rw[←hm.1];exact(Xo.1 hj).1
       have:=hm.2 j d _ hj (Xj hl);simpa[XE,Xj hl]using this
   ·cases hv
  |rp k g sz i j=>
   simp only[aS]at hv;split at hv
   ·rename_i E sz' g' rows hk;split at hv
    ·rename_i e;obtain⟨rfl,rfl⟩:=e;split at hv
     ·rename_i row bO;simp only[XG]at hv;obtain⟨ds,dI,rfl⟩:=hv;have bD:=hc.chunk k;rw[hk]at bD;cases hr with
      |rp _ _ _ _ _ b nn cap hb=>
       obtain⟨cur,xs,z1,z2,z3,z4,z5,z6,z7,z8,z9,z10,z11⟩:=dV bD hb (fun e=>by rw[e]at bO;cases bO);have hi:i < rows.length:=(Xo.1 bO).1;have Aw:row.length=sz:=z5 row (Xl bO);have BO:(i+1)*sz≤rows.length*sz:=Yo sz hi;rw[YI]at BO;have oc:=Cq z2 z5 bO z3;generalize EM:(xs.drop (i*sz)).take sz=ys at oc;have va:ys.length=sz:=by rw[←oc.1,Aw]
       have bY:∀j' v,ys[j']? =some v→cur[i*sz+j']? =some v:=by
        intro j' v hj';rw[←EM]at hj';obtain⟨hlt,hj'⟩:=ek hj';rw[z4 _ (by omega),hj']
       have Pc:bj c w (row.drop j) (ys.drop j):=⟨by rw[XS,XS,oc.1],fun j d x hj hx=>by
        rw[Yk]at hj hx;exact oc.2 _ d x hj hx⟩
       have hm:=many _ ds _ dI (fun k' hk'=>ht k' (by simp only[cO,hk,bO,Yy,XY];exact .inr hk')) Pc;obtain⟨q1,q2⟩:=eH dI;have ed:c.block k (s.heap k)=cQ (.slice (some ⟨b,0,none⟩) nn cap):=by rw[hk];simp[Cx.block,hb]
       refine .ept ds b (i*sz+j) (fun j'=>(ys.drop j).getD j' undef) (fun hm'=>hm'.2 k (ht k (by simp[cO])) (by rw[ed,cF (by omega)])) (mr z1) (fun d hd=>?_) (fun j' hj'=>?_) (fun j' d hj'=>?_)
       ·obtain⟨j',hj',e⟩:=X9 hd;obtain⟨p,hp,xU⟩:=q2 j' d (by rw[←e];exact Xj hj');exact mq xU (z6 row (Xl bO) p (Yb (Xl hp)))
       ·have hl:j+j' < ys.length:=by rw[←q1,XS]at hj';omega
        have:=bY (j+j') _ (Xj hl);simp only[YQ,z1];rw[Zd,this];simp[XE,Yk,Xj hl]
       ·have hl:j' < (ys.drop j).length:=by rw[←hm.1];exact(Xo.1 hj').1
        have:=hm.2 j' d _ hj' (Xj hl);simpa[XE,Xj hl]using this
     ·cases hv
    ·cases hv
   ·cases hv
  |clo g caps=>
   simp only[aS,XG]at hv;obtain⟨ds,dI,rfl⟩:=hv;cases hr with
   |clo _ _ vs hl aY=>
    have hm:=many _ ds _ dI (fun k' hk'=>ht k' hk') ⟨hl,aY⟩;exact .clo g ds vs hm.1 hm.2
  |agg cells=>
   simp only[aS,XG]at hv;obtain⟨ds,dI,rfl⟩:=hv;cases hr with
   |agg _ vs hl h1 aY=>
    have hm:=many _ ds _ dI (fun k' hk'=>ht k' hk') ⟨hl,aY⟩;refine .agg ds vs hm.1 (fun d hd=>?_) hm.2;obtain⟨j,hj,e⟩:=X9 hd;obtain⟨p,hp,xU⟩:=(eH dI).2 j d (by rw[←e];exact Xj hj);exact mq xU (h1 p (Xl hp))
  |tup cells=>
   simp only[aS,XG]at hv;obtain⟨ds,dI,rfl⟩:=hv;cases hr with
   |tup _ vs hl aY=>
    have hm:=many _ ds _ dI (fun k' hk'=>ht k' hk') ⟨hl,aY⟩;exact .tup ds vs hm.1 hm.2
  |any=>cases hv
  |osl k g sz a m=>
   simp only[aS]at hv;split at hv
   ·rename_i E sz' g' rows hk;split at hv
    ·rename_i e;obtain⟨rfl,rfl,RL⟩:=e;simp only[XG]at hv;obtain⟨drows,dI,rfl⟩:=hv;obtain⟨q1,q2⟩:=vS dI;have bD:=hc.chunk k;rw[hk]at bD;have hkT:k∈T:=ht k (by simp[cO]);have xS:∀r∈rows,∀p∈r,∀k'∈cO s.heap n p,k'∈T:=fun r hr p hp k' hk'=>ht k' (by
      simp only[cO,hk,XY];exact .inr (oI hr hp k' hk'))
     cases hr with
     |osl _ _ _ _ _ b o N cap ed hn Sr Ox=>
      obtain⟨cur,xs,z1,z2,z3,z4,z5,z6,z7,z8,z9,z10,z11⟩:=dV bD ed (fun e=>by rw[e]at RL;simp at RL);have aT:((rows.drop a).take m).length=m:=by rw[Xp,XS];omega
      rw[aT]at q1;rcases Zl m with hm0|hm0
      ·subst hm0;have:drows=[]:=XZ (by omega);subst this;exact .nil sz _ _ (by simp[maxLen]at z9;omega)
      ·have ho:o=a*sz:=Ox (by omega);subst ho;have bO:∀(j:Nat) (p:List PV),((rows.drop a).take m)[j]? =some p→rows[a+j]? =some p∧j < m:=by
        intro j p hp;have hj:j < m:=by have:=(Xo.1 hp).1;rw[aT]at this;exact this
        rw[XQ hj,Yk]at hp;exact⟨hp,hj⟩
       have lv:∀i j,a*sz+i*sz+j=(a+i)*sz+j:=fun i j=>by rw[Zu]
       have sF:∀i j,i < m→j < sz→(a+i)*sz+j < rows.length*sz:=by
        intro i j hi hj;have:(a+i+1)*sz≤rows.length*sz:=Yo sz (by omega);rw[YI]at this;omega
       have hD:RepD (lF c s.heap T) w (.sl sz drows) (.slice (some ⟨b,a*sz,none⟩) drows.length (cap - a)):=by
        refine .sl sz drows b (a*sz) (cap - a) (fun i j=>xs.getD ((a+i)*sz+j) undef) (fun hm'=>hm'.2 k hkT (by rw[hk];simp[Cx.block,ed,cF (show 0 < cap by omega)])) (mr z1) (by omega) (by simp[maxLen]at z9;omega) (fun r hr=>?_) (fun r hr d hd=>?_) (fun i j hi hj=>?_) (fun i j row d hi hj=>?_)
        ·obtain⟨j,hj,e⟩:=X9 hr;obtain⟨p,hp,xU⟩:=q2 j r (by rw[←e];exact Xj hj);rw[←(eH xU).1];exact z5 p (Xl (bO j p hp).1)
        ·obtain⟨j,hj,e⟩:=X9 hr;obtain⟨p,hp,xU⟩:=q2 j r (by rw[←e];exact Xj hj);obtain⟨j2,KH,e2⟩:=X9 hd;obtain⟨p2,Oy,GE⟩:=(eH xU).2 j2 d (by rw[←e2];exact Xj KH);exact mq GE (z6 p (Xl (bO j p hp).1) p2 (Xl Oy))
        ·have hb:=sF i j (by omega) hj;rw[lv];simp only[YQ,z1,z4 _ hb];simp[XE,Xj (show (a+i)*sz+j < xs.length by omega)]
        ·obtain⟨p,hp,xU⟩:=q2 i row hi;obtain⟨p2,Oy,GE⟩:=(eH xU).2 j d hj;obtain⟨hp',hi'⟩:=bO i p hp;have hj':j < sz:=by rw[←z5 p (Xl hp')];exact(Xo.1 Oy).1
         have hb:=sF i j hi' hj';have hx:xs[(a+i)*sz+j]? =some xs[(a+i)*sz+j]:=Xj (by omega);have:=z2.2 ((a+i)*sz+j) p2 _ (by rw[cr z5 (a+i) j hj',hp'];exact Oy) hx;have:=kF n GE (xS p (Xl hp') p2 (Xl Oy)) this;simpa[XE,hx]using this
       rw[←q1]at hD;exact hD
    ·cases hv
   ·cases hv
  |mref=>cases hv
end
def vw (h:Nat→Chunk)(p:PV):Option D:=aS h 6 p
def tc (h:Nat→Chunk)(p:PV):List Nat:=cO h 6 p
theorem Pt {h h':Nat→Chunk}{p:PV}(e:∀k∈tc h p,h' k=h k):vw h' p=vw h p:=(eR 6 p e).1
theorem Pu {h h':Nat→Chunk}{p:PV}(e:∀k∈tc h p,h' k=h k):tc h' p=tc h p:=(eR 6 p e).2
section
variable {X:Cfg}{ops:Array Oper}{s:FS}{o:Oper}(hd:∀d,o.dst=some d→d < X.n)
include hd
theorem Pv {fo:Operand}{args:Array Operand}{tys:Array Nat}{g:Nat}{caps:List PV}{ds:List D}{r:D}(ho:o.op= .call {callee:= .value fo,args:=args,argTypes:=tys})
 (hf:ev s fo= .clo g caps∨∃cd:List D,ev s fo= .d (.clo g cd)∧caps=cd.map .d)
 (hv:cA (vw s.heap) (args.toList.map (ev s)++caps)=some ds) (hp:ae X.P g ds r) (jC:iI (tc s.heap) (args.toList.map (ev s)++caps)=[]∨r.flat=true):
 bv X ops s o {pv:= .d r,touch:=iI (tc s.heap) (args.toList.map (ev s)++caps)}:=by
 refine⟨hd,fun kc h=>by simp at h,fun s' he gz a w hr K Q hK=>?_⟩;obtain⟨c,hc⟩:=hr;have tX:∀x,(x=fo∨x∈args)→ev s' x=ev s x:=fun x hx=>AJ he x (by
  rw[ho];simp only[Op.operands,Call.operands];rcases hx with rfl|hx
  ·simp
  ·simp[hx])
 have Ax:args.toList.map (ev s')=args.toList.map (ev s):=Y2 fun x hx=>tX x (.inr (by simpa using hx));have T8:cA (vw s'.heap) (args.toList.map (ev s)++caps)=some ds:=by
  rw[←hv];exact fC fun p hp=>Pt fun k hk=>gz k (eZ hp k hk)
 have a0o:∀p∈args.toList.map (ev s)++caps,∀k∈tc s'.heap p,k∈iI (tc s.heap) (args.toList.map (ev s)++caps):=by
  intro p hp k hk;refine eZ hp k ?_;have key:tc s'.heap p=tc s.heap p:=Pu fun k hk=>gz k (eZ hp k hk);rw[←key];exact hk
 obtain⟨q1,q2⟩:=eH T8;obtain⟨fvs,T9,vd,EN⟩:∃fvs:List Value,a.eval fo= .func (.func g) #[] fvs.toArray∧caps.length=fvs.length∧∀(j:Nat) (p:PV) (x:Value),caps[j]? =some p→fvs[j]? =some x→RepP c w p x:=by
  have h0:=bF hc fo;rw[tX fo (.inl rfl)]at h0;rcases hf with hf|⟨cd,hf,rfl⟩
  ·rw[hf]at h0;generalize a.eval fo=u at h0;cases h0 with
   |clo _ _ vs hl aY=>exact⟨vs,rfl,hl,aY⟩
  ·rw[hf]at h0;generalize a.eval fo=u at h0;have h0:=bS h0;cases h0 with
   |clo _ _ vs hl aY=>
    refine⟨vs,rfl,by simpa using hl,fun j p x hj hx=>?_⟩;simp only[XA,XG]at hj;obtain⟨y,hy,rfl⟩:=hj;exact .d _ _ (aY j y x hy hx)
 have aY:co (lF c s'.heap (iI (tc s.heap) (args.toList.map (ev s)++caps))) w ds (args.toList.map a.eval++fvs):=by
  refine⟨by rw[←q1];simp[vd],fun j d x hj hx=>?_⟩;obtain⟨p,hp,xU⟩:=q2 j d hj;refine kF hc 6 xU (a0o p (Xl hp)) ?_;by_cases hlt:j < args.toList.length
  ·rw[X5 (by simpa using hlt)]at hp hx;simp only[XA,XG]at hp hx;obtain⟨y,hy,rfl⟩:=hp;obtain⟨y',hy',rfl⟩:=hx;rw[hy]at hy';cases hy';have:=bF hc y;rwa [tX y (.inr (by simpa using Xl hy))]at this
  ·rw[XP (by simpa using hlt)]at hp hx;simp only[XF]at hp hx;exact EN _ p x hp hx
 have iD:=hp.2 _ w (args.toList.map a.eval++fvs) (fun b hb=>hc.lt hb.1) (hc.ginv.keep ⟨XC _,fun _ _ _=>rfl,fun b _ hb=>hb.1⟩) aY;have b9:(execOp a.eval o).run X.P w= .ok (.enter g (args.toList.map a.eval++fvs).toArray) w:=by
  have e:(args.toList.map a.eval++fvs).toArray=args.map a.eval++fvs.toArray:=by
   apply Z9;simp
  rw[e];simp[execOp,ho,resolve,T9,Deferred.ofValue,invoke];exact hp.1 _ _
 unfold Oper.wp;rw[b9,Oper.upon_enter];refine iD.mono ?_;rintro e w' ⟨v,rfl,hv',hx⟩;have jU:=hc.grow hx;refine hK v w' ⟨c,jU.put (.d _ _ ?_) hd⟩;rcases jC with h0|hflat
 ·refine hv'.keep ⟨XC _,fun _ _ _=>rfl,fun b _ hb=>⟨hb,fun k hk=>?_⟩⟩;rw[h0]at hk;simp at hk
 ·exact Lv hv' hflat
end
theorem sX {size:Nat}(place:Nat→Option (Nat × Nat))(oa:∀i,place i=some (i*size,size)):∀(vs:List Value) (i:Nat) (done rest:List Value),(∀v∈vs,v.cells.size=size)→done.length=i*size→rest.length=vs.length*size→
 Instr.fill place (done++rest).toArray ((vs.zipIdx i).map fun(v,j)=>(j,v))=some (done++(vs.map fun v=>v.cells.toList).flatten).toArray
 |[],i,done,rest,_,_,hr=>by
  have:rest=[]:=XZ (by simpa using hr);subst this;simp[Instr.fill]
 |v::vs,i,done,rest,hv,hdn,hr=>by
  have h0:=hv v (by simp);rw[XD,YI]at hr;simp only[List.zipIdx_cons,Xm];rw[zm place _ i (i*size) size v _ (oa i) h0 (by simp;omega)];have e:av (done++rest) (i*size) v.cells.toList=(done++v.cells.toList)++rest.drop size:=by
   unfold av;have hl:v.cells.toList.length=size:=by simpa using h0
   rw[←hdn,List.take_left,hl,_n,V' (by omega),Ye];congr 1;congr 1;omega
  simp only[Y3];rw[e,sX place oa vs (i+1) (done++v.cells.toList) (rest.drop size) (fun x hx=>hv x (by simp[hx])) (by rw[Xt,hdn,YI];simp;omega) (by rw[XS];omega)];simp
section
variable {X:Cfg}{ops:Array Oper}{s:FS}{o:Oper}(hd:∀d,o.dst=some d→d < X.n)
include hd
theorem yv {t e n sz:Nat}{parts:Array (Nat × Operand)}{ti te:TI}{rows:List (List D)}(ho:o.op= .buildSlice t n parts)(ht:aJ X.P t=some ti)(he':ti.elem=some e)(fT:aJ X.P e=some te)
 (cM:te.size=sz) (BQ:0 < sz) (BP:0 < n) (Ua:n*sz≤16777216) (BK:rows.length=n) (kg:parts.size=n) (hp:∀(j:Nat) (i:Nat) (x:Operand),parts[j]? =some (i,x)→i=j∧∃ds,rows[j]? =some ds∧vM (cN (ev s x))=some ds∧zn (ev s x)=true∧ds.length=sz):
 bv X ops s o {pv:= .d (.sl sz rows)}:=
 dJ hd (fun kc h=>by simp at h) fun s' he _ a w c hc=>by
  obtain⟨i,d,z,tk⟩:=gC ht;obtain⟨ie,de,ze,tke⟩:=gC fT;have jP:d= .slice e:=by
   have:=tk.elem;rw[he']at this;cases d<;>simp[fB]at this;rw[this]
  subst jP;obtain⟨vs,sy⟩:∃vs:List Value,vs=parts.toList.map fun p=>a.eval p.2:=⟨_,rfl⟩;have Sn:vs.length=n:=by rw[sy];simpa using kg
  have bO:∀(j:Nat) (ds:List D) (v:Value),rows[j]? =some ds→vs[j]? =some v→co c.M w ds v.cells.toList∧(∀e∈ds,e.one=true)∧ds.length=sz:=by
   intro j ds v hj hv;rw[sy]at hv;simp only[XA,X2,XG]at hv;obtain⟨⟨i,y⟩,hy,rfl⟩:=hv;obtain⟨-,ds',g1,g2,g3,g4⟩:=hp j i y hy;rw[hj]at g1;cases g1;have ma:y∈o.op.operands:=by
    rw[ho];simp only[Op.operands,_m,XH];exact⟨(i,y),by simpa using ZR hy,rfl⟩
   have aY:=bF hc y;rw[he y ma]at aY;obtain⟨r1,r2⟩:=kj aY g3;have gA:=rB g2;refine⟨⟨?_,fun k e v hk hv=>?_⟩,fun e he'=>?_,g4⟩
   ·have:=r1.1;rw[gA,XF]at this;exact this
   ·exact bS (r1.2 k (.d e) v (by rw[gA,XA,hk];rfl) hv)
   ·have:=r2 (.d e) (by rw[gA];exact Za he');exact this
  have Kj:∀v∈vs,v.cells.size=sz:=by
   intro v hv;obtain⟨j,hj,e⟩:=X9 hv;have hjr:j < rows.length:=by omega
   have:=(bO j rows[j] v (Xj hjr) (by rw[←e];exact Xj hj));have h2:=this.1.1;simp at h2;omega
  have GF:(parts.map fun(i,x)=>(i,a.eval x)).toList=((vs.zipIdx 0).map fun(v,j)=>(j,v)):=by
   apply Yh;intro j;simp only[F',XA,List.getElem?_zipIdx,sy,X2];cases hj:parts[j]? with
   |none=>rfl
   |some ix=>
    obtain⟨i,x⟩:=ix;obtain⟨rfl,-⟩:=hp j i x hj;simp
  have St:ze.cells.size=sz:=by rw[←cM,←tke.zsize,←tke.zcells];simp
  have Oz:Instr.fill (fun i=>some (i*sz,sz)) ((_k (n*sz)).map (ze.cells[· % ze.cells.size]!)) (parts.map fun(i,x)=>(i,a.eval x)).toList=some ((vs.map fun v=>v.cells.toList).flatten).toArray:=by
   have:=sX (size:=sz) (fun i=>some (i*sz,sz)) (fun _=>rfl) vs 0 [] ((_k (n*sz)).map (ze.cells[· % ze.cells.size]!)).toList Kj (by simp) (by simp[Sn]);rw[GF];rw[Ye,Ye,_g]at this;exact this
  have jC:∀r∈vs.map fun v=>v.cells.toList,r.length=sz:=by
   intro r hr;obtain⟨v,hv,rfl⟩:=XH.1 hr;simpa using Kj v hv
  have hx:=iS w (.cells ((vs.map fun v=>v.cells.toList).flatten).toArray e);refine⟨.value (.slice (some ⟨w.heap.size,0,none⟩) n n),_,w.alloc (.cells ((vs.map fun v=>v.cells.toList).flatten).toArray e),?_,.inl rfl,c,hc.grow hx,.d _ _ ?_⟩
  ·have jg:∀o:Obj,({w with heap:=w.heap.push o}:World)=w.alloc o:=fun o=>(U' w o);have b9:(Instr.buildSlice t n (parts.map fun(i,x)=>(i,a.eval x))).run X.P w= .ok (.slice (some ⟨w.heap.size,0,none⟩) n n) (w.alloc (.cells ((vs.map fun v=>v.cells.toList).flatten).toArray e)):=by
    have bH:¬(n*sz=0):=Nat.ne_of_gt (Nat.mul_pos BP BQ);unfold Instr.buildSlice;simp only[Sem.run_bind,run_underlying tk.und,Result.andThen_ok,sizeOf,typeInfo,run_program,tke.info,Sem.run_pure,tke.size,cM];rw[if_neg (by omega),if_neg bH];simp only[Sem.run_bind,zeroValue,typeInfo,run_program,tke.info,Result.andThen_ok,Sem.run_pure,tke.zero,Oz];simp[newRow,newObj,Sem.run,jg]
   simp only[execOp,ho];rw[Sem.run_bind,b9];rfl
  ·have hM:∀b,c.M b→b < w.heap.size:=fun b hb=>hc.lt hb;have hk:Keep c.M w c.M (w.alloc (.cells ((vs.map fun v=>v.cells.toList).flatten).toArray e)):=Keep.ext hx hM;subst BK;refine .sl sz rows w.heap.size 0 rows.length (fun i j=>((vs[i]?.map fun v=>v.cells.toList).getD []).getD j undef) (fun h=>by have:=hM _ h;omega) (by rw[size_alloc];omega) (XC _)
    (by have:rows.length≤rows.length*sz:=Nat.le_mul_of_pos_right _ BQ;omega) (fun r hr=>?_) (fun r hr=>?_) (fun i j hi hj=>?_) (fun i j row d hi hj=>?_)
   ·obtain⟨j,hj,e⟩:=X9 hr;exact(bO j r vs[j] (by rw[←e];exact Xj hj) (Xj (by omega))).2.2
   ·obtain⟨j,hj,e⟩:=X9 hr;exact(bO j r vs[j] (by rw[←e];exact Xj hj) (Xj (by omega))).2.1
   ·have hv:vs[i]? =some vs[i]:=Xj (by omega);have hf:=cr (rows:=vs.map fun v=>v.cells.toList) jC i j hj;rw[XA,hv]at hf;simp only[YQ,jm,XK,List.getElem?_toArray,hf,hv,Yg,Yy,YW];have hl:j < vs[i].cells.toList.length:=by
     have:=Kj vs[i] (Ym (by omega));simpa[this]using hj
    simp[XE,Xj hl]
   ·have hi':i < rows.length:=(Xo.1 hi).1;have hv:vs[i]? =some vs[i]:=Xj (by omega);obtain⟨g1,g2,g3⟩:=bO i row vs[i] hi hv;have hl:j < vs[i].cells.toList.length:=by rw[←g1.1];exact(Xo.1 hj).1
    have:=(g1.2 j d _ hj (Xj hl)).keep hk;simpa[hv,XE,Xj hl]using this
theorem vT {t e n sz nk:Nat}{parts:Array (Nat × Operand)}{ti te:TI}{rows:List (List PV)}(ho:o.op= .buildSlice t n parts)(ht:aJ X.P t=some ti)(he':ti.elem=some e)(fT:aJ X.P e=some te)
 (cM:te.size=sz) (BQ:0 < sz) (BP:0 < n) (Ua:n*sz≤16777216) (BK:rows.length=n) (kg:parts.size=n) (hk:s.heap nk= .none) (uF:¬nk < X.m) (hp:∀(j:Nat) (i:Nat) (x:Operand),parts[j]? =some (i,x)→i=j∧rows[j]? =some (cN (ev s x))∧zn (ev s x)=true∧(cN (ev s x)).length=sz):
 bv X ops s o {pv:= .own nk 0,eff:=[(nk,.row e sz 0 rows)],touch:=[nk]}:=
 dJ hd (fun kc h=>by simp at h;subst h;simp) fun s' he gz a w c hc=>by
  obtain⟨i,d,z,tk⟩:=gC ht;obtain⟨ie,de,ze,tke⟩:=gC fT;have jP:d= .slice e:=by
   have:=tk.elem;rw[he']at this;cases d<;>simp[fB]at this;rw[this]
  subst jP;obtain⟨vs,sy⟩:∃vs:List Value,vs=parts.toList.map fun p=>a.eval p.2:=⟨_,rfl⟩;have Sn:vs.length=n:=by rw[sy];simpa using kg
  have bO:∀(j:Nat) (ds:List PV) (v:Value),rows[j]? =some ds→vs[j]? =some v→bj c w ds v.cells.toList∧(∀e∈ds,e.one=true)∧ds.length=sz:=by
   intro j ds v hj hv;rw[sy]at hv;simp only[XA,X2,XG]at hv;obtain⟨⟨i,y⟩,hy,rfl⟩:=hv;obtain⟨-,g1,g3,g4⟩:=hp j i y hy;rw[hj]at g1;cases g1;have ma:y∈o.op.operands:=by
    rw[ho];simp only[Op.operands,_m,XH];exact⟨(i,y),by simpa using ZR hy,rfl⟩
   have aY:=bF hc y;rw[he y ma]at aY;obtain⟨r1,r2⟩:=kj aY g3;exact⟨r1,r2,g4⟩
  have Kj:∀v∈vs,v.cells.size=sz:=by
   intro v hv;obtain⟨j,hj,e⟩:=X9 hv;have hjr:j < rows.length:=by omega
   have:=(bO j rows[j] v (Xj hjr) (by rw[←e];exact Xj hj));have h2:=this.1.1;simp at h2;omega
  have GF:(parts.map fun(i,x)=>(i,a.eval x)).toList=((vs.zipIdx 0).map fun(v,j)=>(j,v)):=by
   apply Yh;intro j;simp only[F',XA,List.getElem?_zipIdx,sy,X2];cases hj:parts[j]? with
   |none=>rfl
   |some ix=>
    obtain⟨i,x⟩:=ix;obtain⟨rfl,-⟩:=hp j i x hj;simp
  have St:ze.cells.size=sz:=by rw[←cM,←tke.zsize,←tke.zcells];simp
  have Oz:Instr.fill (fun i=>some (i*sz,sz)) ((_k (n*sz)).map (ze.cells[· % ze.cells.size]!)) (parts.map fun(i,x)=>(i,a.eval x)).toList=some ((vs.map fun v=>v.cells.toList).flatten).toArray:=by
   have:=sX (size:=sz) (fun i=>some (i*sz,sz)) (fun _=>rfl) vs 0 [] ((_k (n*sz)).map (ze.cells[· % ze.cells.size]!)).toList Kj (by simp) (by simp[Sn]);rw[GF];rw[Ye,Ye,_g]at this;exact this
  have jC:∀r∈vs.map fun v=>v.cells.toList,r.length=sz:=by
   intro r hr;obtain⟨v,hv,rfl⟩:=XH.1 hr;simpa using Kj v hv
  have hx:=iS w (.cells ((vs.map fun v=>v.cells.toList).flatten).toArray e);have hk':s'.heap nk= .none:=by rw[gz nk (by simp)];exact hk
  have H7:(vs.map fun v=>v.cells.toList).flatten.length=n*sz:=by rw[cD jC];simp[Sn]
  have aY:bj c w rows.flatten (vs.map fun v=>v.cells.toList).flatten:=by
   refine⟨?_,fun j d x hj hx=>?_⟩
   ·rw[cD (fun r hr=>?_),H7,BK];obtain⟨j,hj,e⟩:=X9 hr;exact(bO j r vs[j] (by rw[←e];exact Xj hj) (Xj (by omega))).2.2
   ·have Aw:∀r∈rows,r.length=sz:=fun r hr=>by
     obtain⟨j,hj,e⟩:=X9 hr;exact(bO j r vs[j] (by rw[←e];exact Xj hj) (Xj (by omega))).2.2
    have a0p:j < n*sz:=by rw[←H7];exact(Xo.1 hx).1
    have q1:j / sz < n:=ZB (by rw[Zs];exact a0p);have q2:j % sz < sz:=_i _ BQ;have q3:j / sz*sz+j % sz=j:=by rw[Zs];exact ZT j sz
    rw[←q3,cr Aw _ _ q2]at hj;rw[←q3,cr jC _ _ q2,XA]at hx;have h1:rows[j / sz]? =some rows[j / sz]:=Xj (by omega);have h2:vs[j / sz]? =some vs[j / sz]:=Xj (by omega);rw[h1]at hj;rw[h2]at hx;exact(bO _ _ _ h1 h2).1.2 _ d x hj hx
  have bt:OwnV (w.alloc (.cells ((vs.map fun v=>v.cells.toList).flatten).toArray e)) e sz (.slice (some ⟨w.heap.size,0,none⟩) n n) rows.length ((vs.map fun v=>v.cells.toList).flatten):=by
   rw[BK];refine .row _ n n _ _ BP (jm w _) (XC _) (by have:n≤n*sz:=Nat.le_mul_of_pos_right _ BQ;unfold maxLen;omega) (by simp only[YB];exact H7) H7 ?_;rw[Y3,XI (by omega)]
  obtain⟨c',q1,q2⟩:=hc.new_row (w':=w.alloc (.cells ((vs.map fun v=>v.cells.toList).flatten).toArray e)) hk' uF e sz rows _ _ hx bt (fun b hb=>by rw[cF BP]at hb;cases hb;exact XC _) aY (fun r hr=>by
   obtain⟨j,hj,e⟩:=X9 hr;exact(bO j r vs[j] (by rw[←e];exact Xj hj) (Xj (by omega))).2.2) (fun r hr=>by
   obtain⟨j,hj,e⟩:=X9 hr;exact(bO j r vs[j] (by rw[←e];exact Xj hj) (Xj (by omega))).2.1)
  refine⟨.value (.slice (some ⟨w.heap.size,0,none⟩) n n),_,w.alloc (.cells ((vs.map fun v=>v.cells.toList).flatten).toArray e),?_,.inl rfl,c',q1,q2⟩;have jg:∀o:Obj,({w with heap:=w.heap.push o}:World)=w.alloc o:=fun o=>(U' w o);have b9:(Instr.buildSlice t n (parts.map fun(i,x)=>(i,a.eval x))).run X.P w= .ok (.slice (some ⟨w.heap.size,0,none⟩) n n) (w.alloc (.cells ((vs.map fun v=>v.cells.toList).flatten).toArray e)):=by
   have bH:¬(n*sz=0):=Nat.ne_of_gt (Nat.mul_pos BP BQ);unfold Instr.buildSlice;simp only[Sem.run_bind,run_underlying tk.und,Result.andThen_ok,sizeOf,typeInfo,run_program,tke.info,Sem.run_pure,tke.size,cM];rw[if_neg (by omega),if_neg bH];simp only[Sem.run_bind,zeroValue,typeInfo,run_program,tke.info,Result.andThen_ok,Sem.run_pure,tke.zero,Oz];simp[newRow,newObj,Sem.run,jg]
  simp only[execOp,ho];rw[Sem.run_bind,b9];rfl
theorem vU {t e nk:Nat}{ti te:TI}(ho:o.op= .buildSlice t 0 #[])(ht:aJ X.P t=some ti)(he':ti.elem=some e)(fT:aJ X.P e=some te)(hk:s.heap nk= .none)(uF:¬nk < X.m):
 bv X ops s o {pv:= .own nk 0,eff:=[(nk,.row e te.size 0 [])],touch:=[nk]}:=
 dJ hd (fun kc h=>by simp at h;subst h;simp) fun s' he gz a w c hc=>by
  obtain⟨i,d,z,tk⟩:=gC ht;obtain⟨ie,de,ze,tke⟩:=gC fT;have jP:d= .slice e:=by
   have:=tk.elem;rw[he']at this;cases d<;>simp[fB]at this;rw[this]
  subst jP;have hk':s'.heap nk= .none:=by rw[gz nk (by simp)];exact hk
  obtain⟨c',q1,q2⟩:=hc.new_row (w':=w.alloc (.cells #[] e)) hk' uF e te.size [] _ [] (iS w _) (.zero ⟨w.heap.size,0,none⟩) (fun b hb=>by cases hb) ⟨rfl,fun j d x h=>by simp at h⟩ (by simp) (by simp);refine⟨_,_,_,?_,.inl rfl,c',q1,q2⟩;have jg:∀o:Obj,({w with heap:=w.heap.push o}:World)=w.alloc o:=fun o=>(U' w o);have b9:(Instr.buildSlice t 0 #[]).run X.P w= .ok (.slice (some ⟨w.heap.size,0,none⟩) 0 0) (w.alloc (.cells #[] e)):=by
   simp[Instr.buildSlice,run_underlying tk.und,sizeOf,typeInfo,tke.info,Instr.fill,newRow,newObj,Sem.run,jg];rw[show Array.map (fun _=>(default:Value)) (_k 0)=#[] from Array.eq_empty_of_size_eq_zero (by simp)]
  simp only[execOp,ho];rw[Sem.run_bind];simp only[Array.map_empty,b9];rfl
theorem AT {t e nk:Nat}{l x:Operand}{ti te:TI}{zv:Value}{k k':IntKind}{n:Int}(ho:o.op= .makeSlice t l x)(ht:aJ X.P t=some ti)(he':ti.elem=some e)(fT:aJ X.P e=some te)
 (nZ:te.zero=[zv]) (BP:0 < n) (hb:(te.bytes:Int)*n≤281474976710656) (hm:n≤9223372036854775807) (hl:ev s l= .d (.v (.int k n))) (hx:ev s x= .d (.v (.int k' n))) (hk:s.heap nk= .none) (uF:¬nk < X.m):
 bv X ops s o {pv:= .own nk 0,eff:=[(nk,.row e 1 0 (XR n.toNat [.d (.v zv)]))],touch:=[nk]}:=
 dJ hd (fun kc h=>by simp at h;subst h;simp) fun s' he gz a w c hc=>by
  obtain⟨i,d,z,tk⟩:=gC ht;obtain⟨ie,de,ze,tke⟩:=gC fT;have jP:d= .slice e:=by
   have:=tk.elem;rw[he']at this;cases d<;>simp[fB]at this;rw[this]
  subst jP;have e1:=bF hc l;rw[he l (by simp[ho,Op.operands]),hl]at e1;have e2:=bF hc x;rw[he x (by simp[ho,Op.operands]),hx]at e2;have e3:a.eval l= .int k n:=by generalize a.eval l=u at e1;cases bS e1;rfl
  have e4:a.eval x= .int k' n:=by generalize a.eval x=u at e2;cases bS e2;rfl
  have St:ze.cells=#[zv]:=by apply Z9;rw[tke.zcells,nZ]
  have cM:ie.size=1:=by have:=tke.zsize;rw[nZ]at this;rw[tke.size];simpa using this.symm
  have VV:Go.madeCells ze.cells (n.toNat*ie.size)=(XR n.toNat zv).toArray:=by
   rw[St,cM,Nat.mul_one];apply Z9;simp only[Go.madeCells,F',Array.toList_range];apply List.ext_getElem
   ·simp
   ·intro j h1 h2;simp[Nat.mod_one]
  have hk':s'.heap nk= .none:=by rw[gz nk (by simp)];exact hk
  have Aw:∀r∈XR n.toNat [PV.d (.v zv)],r=[PV.d (.v zv)]:=fun r hr=>Zx hr;have hflat:(XR n.toNat [PV.d (.v zv)]).flatten=XR n.toNat (PV.d (.v zv)):=by
   induction n.toNat with
   |zero=>rfl
   |succ m ih=>rw[List.replicate_succ,YE,ih];rfl
  have a0q:zv.oneCell'=true:=tke.one zv (by rw[nZ];simp);obtain⟨c',q1,q2⟩:=hc.new_row (w':=w.alloc (.cells (XR n.toNat zv).toArray e)) hk' uF e 1 (XR n.toNat [PV.d (.v zv)]) (.slice (some ⟨w.heap.size,0,none⟩) n.toNat n.toNat) (XR n.toNat zv) (iS w _) (by
   rw[List.length_replicate];refine .row _ n.toNat n.toNat _ _ (by omega) (jm w _) (XC _) (by unfold maxLen;omega) (by simp) (by simp) ?_;rw[Y3,XI (by simp)]) (fun b hb=>by rw[cF (by omega)]at hb;cases hb;exact XC _) (by
   rw[hflat];refine⟨by simp,fun j d u hj hu=>?_⟩;rw[Z6]at hj hu;split at hj
   ·cases hj;rename_i hlt;rw[if_pos hlt]at hu;cases hu;exact .d _ _ (.v _)
   ·cases hj) (fun r hr=>by rw[Aw r hr];rfl) (fun r hr d hd=>by rw[Aw r hr]at hd;rw[X7.1 hd];exact a0q)
  refine⟨_,_,_,?_,.inl rfl,c',q1,q2⟩;have b9:=run_make (P:=X.P) w t e ie ze tk.und tke.info tke.zero k k' n n (by omega) (Int.le_refl _) (by rw[tke.bytes];exact hb) hm;rw[VV]at b9;simp only[execOp,ho,e3,e4];rw[Sem.run_bind,b9];rfl
theorem Fv {src dst:Nat}{x:Operand}{k k':IntKind}{n:Int}{ts td:TI}(ho:o.op= .convert src dst x)(hs:aJ X.P src=some ts)(ht:aJ X.P dst=some td)(hi:td.int=some k)(hx:ev s x= .d (.v (.int k' n))):
 bv X ops s o {pv:= .d (.v (.int k (k.wrap n)))}:=
 aB hd fun s' he _ a w c hc=>by
  have h1:=cY hc ((he x (by simp[ho,Op.operands])).trans hx);obtain⟨i,d,z,tk⟩:=gC hs;obtain⟨i2,d2,z2,tk2⟩:=gC ht;have B6:d2= .int k:=by
   have:=tk2.int;rw[hi]at this;cases d2<;>simp[Pq]at this;rw[this]
  subst B6;refine⟨.int k (k.wrap n),?_,.d _ _ (.v _)⟩;have b9:(convert src dst (.int k' n)).run X.P w= .ok (.int k (k.wrap n)) w:=by
   simp[convert,run_underlying tk.und,run_underlying tk2.und,Conv.intToInt]
  simp only[execOp,ho,h1];rw[Sem.run_bind,b9];rfl
theorem SQ {x y:Operand}{tys:Array Nat}{k:IntKind}{m n:Int}(ho:o.op= .call {callee:= .builtin .min,args:=#[x,y],argTypes:=tys})(hx:ev s x= .d (.v (.int k m)))(hy:ev s y= .d (.v (.int k n))):
 bv X ops s o {pv:= .d (.v (.int k (if n < m then n else m)))}:=
 aB hd fun s' he _ a w c hc=>by
  have h1:=cY hc ((he x (by simp[ho,Op.operands,Call.operands])).trans hx);have h2:=cY hc ((he y (by simp[ho,Op.operands,Call.operands])).trans hy);exact⟨.int k (if n < m then n else m),by simp[execOp,ho,resolve,h1,h2,invoke,builtin,Builtin.min_,Builtin.min2],.d _ _ (.v _)⟩
theorem SS {x y:Operand}{tys:Array Nat}{k:IntKind}{m n:Int}(ho:o.op= .call {callee:= .builtin .max,args:=#[x,y],argTypes:=tys})(hx:ev s x= .d (.v (.int k m)))(hy:ev s y= .d (.v (.int k n))):
 bv X ops s o {pv:= .d (.v (.int k (if m < n then n else m)))}:=
 aB hd fun s' he _ a w c hc=>by
  have h1:=cY hc ((he x (by simp[ho,Op.operands,Call.operands])).trans hx);have h2:=cY hc ((he y (by simp[ho,Op.operands,Call.operands])).trans hy);exact⟨.int k (if m < n then n else m),by simp[execOp,ho,resolve,h1,h2,invoke,builtin,Builtin.max_,Builtin.max2],.d _ _ (.v _)⟩
end
theorem mv (T:List Nat)(h:Nat→Chunk)(k:Nat):cz (T.map fun k=>(k,.gone)) h k=if k∈T then .gone else h k:=by
 induction T with
 |nil=>simp[cz]
 |cons a T ih=>
  simp only[Xm,cz];by_cases e:k=a
  ·simp[e]
  ·rw[if_neg e,ih];simp[e]
theorem RealC.freeze {X:Cfg}{s:FS}{a:Act}{w:World}{c:Cx}(h:RealC X s a w c)(T:List Nat):
 RealC X {s with heap:=cz (T.map fun k=>(k,.gone)) s.heap} a w {c with M:=lF c s.heap T}:=by
 have kf:=mv T s.heap;have hk:=sW c s.heap T w;have cV:∀k ch,Cx.block {c with M:=lF c s.heap T} k ch=c.block k ch:=fun k ch=>by cases ch<;>rfl
 have hle:c.le {c with M:=lF c s.heap T}:=⟨fun _ _ h=>h,fun _ _ _ h=>h⟩;refine⟨h.size,h.defers,h.ext,h.inv,h.fresh,fun b=>?_,fun k b hb=>?_,fun k k' b hb hb'=>?_,fun t=>(h.env t).keep hle hk,fun k=>?_,h.lent⟩
 ·constructor
  ·rintro⟨hm,hT⟩;rcases(h.mu b).1 hm with h0|⟨k,H8⟩
   ·exact .inl h0
   ·refine .inr ⟨k,?_⟩;have hnT:k∉T:=fun fl=>hT k fl H8;simp only[kf,if_neg hnT,cV];exact H8
  ·rintro (h0|⟨k,H8⟩)
   ·refine⟨(h.mu b).2 (.inl h0),fun k _ e=>?_⟩;rcases(h.new k b e).1 with h1|h1
    ·exact(h.fresh b h0).2 h1
    ·have:=(h.fresh b h0).1;omega
   ·simp only[kf,cV]at H8;split at H8
    ·simp[Cx.block]at H8
    ·rename_i hnT;refine⟨(h.mu b).2 (.inr ⟨k,H8⟩),fun k' hk' e=>?_⟩;have:=h.apart k k' b H8 e;subst this;exact hnT hk'
 ·simp only[kf,cV]at hb;split at hb
  ·simp[Cx.block]at hb
  ·exact h.new k b hb
 ·simp only[kf,cV]at hb hb';split at hb
  ·simp[Cx.block]at hb
  ·split at hb'
   ·simp[Cx.block]at hb'
   ·exact h.apart k k' b hb hb'
 ·simp only[kf];split
  ·exact .gone
  ·exact(h.chunk k).keep hle hk (fun _ _=>rfl) rfl rfl
abbrev cm:=List (Nat × PV)
def eG:cm→Nat→PV
 |[],_=> .any
 |(a,p)::l,t=>if t=a then p else eG l t
def aw:List Chunk→Nat→Chunk
 |[],_=> .none
 |c::_,0=>c
 |_::l,k+1=>aw l k
def bG (e:cm)(h:List Chunk):FS:=⟨eG e,aw h⟩
def du (e:cm):Operand→PV
 | .tmp t=>eG e t
 | .const v=> .d (.v v)
 | .func f=> .d (.clo f [])
 | .global _=> .any
theorem ax (e:cm)(h:List Chunk)(x:Operand):ev (bG e h) x=du e x:=by cases x<;>rfl
mutual
def aj (n:Nat):PV→Bool
 | .ptr k _=>decide (k < n)
 | .own k _=>decide (k < n)
 | .rp k _ _ _ _=>decide (k < n)
 | .osl k _ _ _ _=>decide (k < n)
 | .mref k=>decide (k < n)
 | .agg l=>ai n l
 | .tup l=>ai n l
 | .clo _ caps=>ai n caps
 | .d _=>true
 | .any=>true
def ai (n:Nat):List PV→Bool
 |[]=>true
 |p::l=>aj n p&&ai n l
end
theorem iU {n:Nat}:∀{l:List PV},ai n l=true→∀p∈l,aj n p=true
 |q::l,h,p,hp=>by
  simp only[ai,Xy]at h;rcases XY.1 hp with rfl|hp
  ·exact h.1
  ·exact iU h.2 p hp
def ct (n:Nat):List (List PV)→Bool
 |[]=>true
 |r::l=>ai n r&&ct n l
theorem aM (n:Nat):∀(l:List D),ai n (l.map .d)=true
 |[]=>rfl
 |x::l=>by simp only[Xm,ai,aj,aM n l,Yn]
theorem aq (n:Nat):∀(l:List (List D)),ct n (ab l)=true
 |[]=>rfl
 |x::l=>by
  have:=aq n l;simp only[ab]at this;simp only[ab,Xm,ct,aM,this,Yn]
def aH (n:Nat):Chunk→Bool
 | .box _ cells=>ai n cells
 | .row _ _ _ rows=>ct n rows
 |_=>true
def az (n:Nat):List Chunk→Bool
 |[]=>true
 |c::l=>aH n c&&az n l
def dY (n:Nat):cm→Bool
 |[]=>true
 |(_,p)::l=>aj n p&&dY n l
def Iz (e:cm):cm→Prop
 |[]=>True
 |(t,p)::l=>eG e t=p∧Iz e l
theorem vV {n:Nat}:∀{e:cm},dY n e=true→∀t,aj n (eG e t)=true
 |[],_,_=>rfl
 |(t',p)::l,h,t=>by
  simp only[dY,Xy]at h;simp only[eG];by_cases ht:t=t'
  ·rw[if_pos ht];exact h.1
  ·rw[if_neg ht];exact vV h.2 t
theorem sY {n:Nat}:∀{h:List Chunk},az n h=true→∀k,aH n (aw h k)=true
 |[],_,_=>rfl
 |c::l,h,k=>by
  simp only[az,Xy]at h;cases k with
  |zero=>exact h.1
  |succ k=>exact sY h.2 k
mutual
def ren (ρ:Nat→Nat):PV→PV
 | .d x=> .d x
 | .any=> .any
 | .ptr k o=> .ptr (ρ k) o
 | .own k g=> .own (ρ k) g
 | .rp k g sz i j=> .rp (ρ k) g sz i j
 | .osl k g sz a n=> .osl (ρ k) g sz a n
 | .clo g caps=> .clo g (ig ρ caps)
 | .agg l=> .agg (ig ρ l)
 | .tup l=> .tup (ig ρ l)
 | .mref k=> .mref (ρ k)
def ig (ρ:Nat→Nat):List PV→List PV
 |[]=>[]
 |p::l=>ren ρ p::ig ρ l
end
def jn (ρ:Nat→Nat):List (List PV)→List (List PV)
 |[]=>[]
 |r::l=>ig ρ r::jn ρ l
def lA (ρ:Nat→Nat):Chunk→Chunk
 | .box T cells=> .box T (ig ρ cells)
 | .row E sz g rows=> .row E sz g (jn ρ rows)
 |c=>c
theorem cR (ρ:Nat→Nat):∀(l:List PV),ig ρ l=l.map (ren ρ)
 |[]=>rfl
 |p::l=>by simp only[ig,cR ρ l,Xm]
theorem en (ρ:Nat→Nat):∀(l:List (List PV)),jn ρ l=l.map (·.map (ren ρ))
 |[]=>rfl
 |p::l=>by simp only[jn,en ρ l,cR,Xm]
theorem Fw (ρ:Nat→Nat):∀(l:List D),ig ρ (l.map .d)=l.map .d
 |[]=>rfl
 |x::l=>by simp only[Xm,ig,ren,Fw ρ l]
theorem vW (ρ:Nat→Nat):∀(l:List (List D)),jn ρ (ab l)=ab l
 |[]=>rfl
 |x::l=>by
  have:=vW ρ l;simp only[ab]at this;simp only[ab,Xm,jn,Fw,this]
theorem Lx (ρ:Nat→Nat)(l:List (List PV))(i:Nat)(r:List PV):jn ρ (l.set i r)=(jn ρ l).set i (ig ρ r):=by
 simp only[en,cR,List.map_set]
theorem Cy (ρ:Nat→Nat)(l:List (List PV)):(jn ρ l).length=l.length:=by rw[en,XF]
theorem pw (ρ:Nat→Nat)(p:PV):(ren ρ p).one=p.one:=by cases p<;>rfl
theorem rE (ρ:Nat→Nat)(l:List (List PV)):(jn ρ l).flatten=l.flatten.map (ren ρ):=by
 rw[en,List.map_flatten]
theorem RepP.ren {c c2:Cx}{w:World}{ρ:Nat→Nat}{p:PV}{v:Value}(h:RepP c w p v)(hM:∀d x,RepD c.M w d x→RepD c2.M w d x)(hb:∀k b,c.bl k=some b→c2.bl (ρ k)=some b)(ho:∀k g u,c.ov k g=some u→c2.ov (ρ k) g=some u):RepP c2 w (ren ρ p) v:=by
 induction h with
 |d x v h=>exact .d x v (hM x v h)
 |any v=>exact .any v
 |ptr k off b h=>exact .ptr _ off b (hb _ _ h)
 |own k g v h h1=>exact .own _ g v (ho _ _ _ h) h1
 |rp k g sz i j b n cap h=>exact .rp _ g sz i j b n cap (ho _ _ _ h)
 |osl k g sz a n b o N cap h hn hc h2=>exact .osl _ g sz a n b o N cap (ho _ _ _ h) hn hc h2
 |clo g caps vs hl aY ih=>
  refine .clo g _ vs (by rw[cR,XF];exact hl) fun j d x hj hx=>?_;rw[cR,XA,XG]at hj;obtain⟨y,hy,rfl⟩:=hj;exact ih j y x hy hx
 |agg caps vs hl h1 aY ih=>
  refine .agg _ vs (by rw[cR,XF];exact hl) (fun d hd=>?_) fun j d x hj hx=>?_
  ·rw[cR]at hd;obtain⟨y,hy,rfl⟩:=XH.1 hd;rw[pw];exact h1 y hy
  ·rw[cR,XA,XG]at hj;obtain⟨y,hy,rfl⟩:=hj;exact ih j y x hy hx
 |tup caps vs hl aY ih=>
  refine .tup _ vs (by rw[cR,XF];exact hl) fun j d x hj hx=>?_;rw[cR,XA,XG]at hj;obtain⟨y,hy,rfl⟩:=hj;exact ih j y x hy hx
 |mref k b h=>exact .mref _ b (hb _ _ h)
theorem bj.ren {c c2:Cx}{w:World}{ρ:Nat→Nat}{ps:List PV}{vs:List Value}(h:bj c w ps vs)(hM:∀d x,RepD c.M w d x→RepD c2.M w d x)(hb:∀k b,c.bl k=some b→c2.bl (ρ k)=some b)(ho:∀k g u,c.ov k g=some u→c2.ov (ρ k) g=some u):bj c2 w (ps.map (ren ρ)) vs:=by
 refine⟨by rw[XF];exact h.1,fun j d x hj hx=>?_⟩;rw[XA,XG]at hj;obtain⟨y,hy,rfl⟩:=hj;exact(h.2 j y x hy hx).ren hM hb ho
mutual
theorem U6 {c c1:Cx}{w:World}{ρ:Nat→Nat}{m:Nat}(hM:∀d x,RepD c.M w d x→RepD c1.M w d x)(hb:∀j,j < m→∀b,c.bl (ρ j)=some b→c1.bl j=some b)(ho:∀j,j < m→∀g u,c.ov (ρ j) g=some u→c1.ov j g=some u):∀(p:PV) (v:Value),aj m p=true→RepP c w (ren ρ p) v→RepP c1 w p v
 | .d x,v,_,h=>by
  simp only[Go.Proofs.YtojojebildofnaaGreatDoor.ren]at h;cases h with|d _ _ h=>exact .d x v (hM x v h)
 | .any,v,_,_=> .any v
 | .ptr k off,v,hk,h=>by
  simp only[Go.Proofs.YtojojebildofnaaGreatDoor.ren]at h;simp only[aj,decide_eq_true_eq]at hk;cases h with|ptr _ _ b h=>exact .ptr k off b (hb k hk b h)
 | .own k g,v,hk,h=>by
  simp only[Go.Proofs.YtojojebildofnaaGreatDoor.ren]at h;simp only[aj,decide_eq_true_eq]at hk;cases h with|own _ _ _ h h1=>exact .own k g v (ho k hk g v h) h1
 | .rp k g sz i j,v,hk,h=>by
  simp only[Go.Proofs.YtojojebildofnaaGreatDoor.ren]at h;simp only[aj,decide_eq_true_eq]at hk;cases h with|rp _ _ _ _ _ b n cap h=>exact .rp k g sz i j b n cap (ho k hk g _ h)
 | .osl k g sz a n,v,hk,h=>by
  simp only[Go.Proofs.YtojojebildofnaaGreatDoor.ren]at h;simp only[aj,decide_eq_true_eq]at hk;cases h with|osl _ _ _ _ _ b o N cap h hn hc h2=>exact .osl k g sz a n b o N cap (ho k hk g _ h) hn hc h2
 | .mref k,v,hk,h=>by
  simp only[Go.Proofs.YtojojebildofnaaGreatDoor.ren]at h;simp only[aj,decide_eq_true_eq]at hk;cases h with|mref _ b h=>exact .mref k b (hb k hk b h)
 | .clo g caps,v,hk,h=>by
  simp only[Go.Proofs.YtojojebildofnaaGreatDoor.ren]at h;simp only[aj]at hk;cases h with
  |clo _ _ vs hl aY=>
   rw[cR,XF]at hl;exact .clo g caps vs hl (qD hM hb ho caps vs hk aY)
 | .agg caps,v,hk,h=>by
  simp only[Go.Proofs.YtojojebildofnaaGreatDoor.ren]at h;simp only[aj]at hk;cases h with
  |agg _ vs hl h1 aY=>
   rw[cR,XF]at hl;refine .agg caps vs hl (fun d hd=>?_) (qD hM hb ho caps vs hk aY);rw[←pw ρ];exact h1 _ (by rw[cR];exact Za hd)
 | .tup caps,v,hk,h=>by
  simp only[Go.Proofs.YtojojebildofnaaGreatDoor.ren]at h;simp only[aj]at hk;cases h with
  |tup _ vs hl aY=>
   rw[cR,XF]at hl;exact .tup caps vs hl (qD hM hb ho caps vs hk aY)
theorem qD {c c1:Cx}{w:World}{ρ:Nat→Nat}{m:Nat}(hM:∀d x,RepD c.M w d x→RepD c1.M w d x)(hb:∀j,j < m→∀b,c.bl (ρ j)=some b→c1.bl j=some b)(ho:∀j,j < m→∀g u,c.ov (ρ j) g=some u→c1.ov j g=some u):∀(l:List PV) (vs:List Value),ai m l=true→(∀(j:Nat) (d:PV) (x:Value),(ig ρ l)[j]? =some d→vs[j]? =some x→RepP c w d x)→∀(j:Nat) (d:PV) (x:Value),l[j]? =some d→vs[j]? =some x→RepP c1 w d x
 |[],_,_,_,j,d,x,hj,_=>by simp at hj
 |p::l,[],_,_,j,d,x,_,hx=>by simp at hx
 |p::l,v::vs,hk,h,j,d,x,hj,hx=>by
  simp only[ai,Xy]at hk;cases j with
  |zero=>
   have e1:p=d:=by simpa using hj
   have e2:v=x:=by simpa using hx
   rw[←e1,←e2];exact U6 hM hb ho p v hk.1 (h 0 _ v rfl rfl)
  |succ j=>exact qD hM hb ho l vs hk.2 (fun j d x h1 h2=>h (j+1) d x h1 (by simpa using h2)) j d x (by simpa using hj) (by simpa using hx)
end
theorem uf {m:Nat}{rows:List (List PV)}(h:ct m rows=true):ai m rows.flatten=true:=by
 induction rows with
 |nil=>rfl
 |cons r rows ih=>
  simp only[ct,Xy]at h;have app:∀(a b:List PV),ai m a=true→ai m b=true→ai m (a++b)=true:=by
   intro a b ha hb;induction a with
   |nil=>exact hb
   |cons x a iha=>
    simp only[ai,Xy]at ha;simp only[X6,ai,ha.1,iha ha.2,Yn]
  rw[YE];exact app _ _ h.1 (ih h.2)
def IA:Act:={tmps:=#[],defers:=[]}
structure MSpec (P:Program)(f:Nat)(args:List PV)(h0:List Chunk)(r:PV)(h1:List Chunk):Prop where
 fn:vR P f
 le:h0.length≤h1.length
 ba:ai h0.length args=true
 bh:az h0.length h0=true
 run:∀X:Cfg,X.P=P→X.n=0→X.m=h0.length→∀(w:World) (c:Cx) (vs:List Value),RealC X (bG [] h0) IA w c→bj c w args vs→
  Calls P f vs.toArray w fun e w'=>∃v c',e= .returned v∧RepP c' w' r v∧RealC X (bG [] h1) IA w' c'
def eh:List Nat→Nat→Nat→Nat
 |[],nk,j=>nk+j
 |k::_,_,0=>k
 |_::l,nk,j+1=>eh l nk j
theorem jZ:∀(ls:List Nat) (nk j:Nat),eh ls nk (ls.length+j)=nk+j
 |[],nk,j=>by simp[eh]
 |k::l,nk,j=>by
  rw[XD,show l.length+1+j=(l.length+j)+1 by omega];exact jZ l nk j
theorem ng:∀{ls:List Nat}{nk j:Nat},j < ls.length→ls[j]? =some (eh ls nk j)
 |k::l,nk,0,_=>rfl
 |k::l,nk,j+1,h=>by simpa[eh]using ng (ls:=l) (nk:=nk) (j:=j) (by simpa using h)
theorem AU {ls:List Nat}{nk:Nat}(hn:ls.Nodup)(hlt:∀k∈ls,k < nk){i j:Nat}(h:eh ls nk i=eh ls nk j):i=j:=by
 have old:∀i,i < ls.length→eh ls nk i < nk:=fun i hi=>hlt _ (Xl (ng hi));rcases XO i ls.length with hi|hi<;>rcases XO j ls.length with hj|hj
 ·have h1:=ng (nk:=nk) hi;have h2:=ng (nk:=nk) hj;rw[h]at h1;rw[Xj hi]at h1;rw[Xj hj]at h2;have h3:ls[i]=ls[j]:=XX.inj (h1.trans h2.symm);exact(List.getElem_inj (h₀:=hi) (h₁:=hj) hn).1 h3
 ·have:=old i hi;have h2:=jZ ls nk (j - ls.length);rw[show ls.length+(j - ls.length)=j by omega]at h2;omega
 ·have:=old j hj;have h2:=jZ ls nk (i - ls.length);rw[show ls.length+(i - ls.length)=i by omega]at h2;omega
 ·have h1:=jZ ls nk (i - ls.length);have h2:=jZ ls nk (j - ls.length);rw[show ls.length+(i - ls.length)=i by omega]at h1;rw[show ls.length+(j - ls.length)=j by omega]at h2;omega
def j0 (ρ:Nat→Nat):Nat→List Chunk→List (Nat × Chunk)
 |_,[]=>[]
 |j,c::l=>(ρ j,lA ρ c)::j0 ρ (j+1) l
def aZ (h:Nat→Chunk)(ρ:Nat→Nat):Nat→List Chunk→Prop
 |_,[]=>True
 |j,c::l=>h (ρ j)=lA ρ c∧aZ h ρ (j+1) l
theorem zu {h:Nat→Chunk}{ρ:Nat→Nat}:∀{l:List Chunk}{i:Nat},aZ h ρ i l→∀{j:Nat},j < l.length→h (ρ (i+j))=lA ρ (aw l j)
 |c::l,i,⟨h1,h2⟩,0,_=>h1
 |c::l,i,⟨h1,h2⟩,j+1,hj=>by
  have:=zu h2 (j:=j) (by simpa using hj);rw[show i+1+j=i+(j+1) by omega]at this;exact this
theorem sZ (ρ:Nat→Nat):∀(l:List Chunk) (i:Nat),(j0 ρ i l).map (·.1)=(X3 l.length).map fun j=>ρ (i+j)
 |[],i=>rfl
 |c::l,i=>by
  rw[j0,Xm,sZ ρ l (i+1),XD,List.range_succ_eq_map,Xm,Z8];congr 1;refine Y2 fun j _=>?_;simp only[Function.comp];rw[show i+1+j=i+(j+1) by omega]
theorem AV {ρ:Nat→Nat}(VW:∀i j,ρ i=ρ j→i=j){h:Nat→Chunk}:∀(l:List Chunk) (i j:Nat),j < l.length→cz (j0 ρ i l) h (ρ (i+j))=lA ρ (aw l j)
 |c::l,i,0,_=>by simp[j0,cz,aw]
 |c::l,i,j+1,hj=>by
  simp only[j0,cz];rw[if_neg (fun e=>by have:=VW _ _ e;omega)];have:=AV VW (h:=h) l (i+1) j (by simpa using hj);rw[show i+1+j=i+(j+1) by omega]at this;exact this
theorem Cz {ρ:Nat→Nat}{h:Nat→Chunk}{k:Nat}:∀(l:List Chunk) (i:Nat),(∀j,j < l.length→ρ (i+j)≠k)→cz (j0 ρ i l) h k=h k
 |[],_,_=>rfl
 |c::l,i,hk=>by
  simp only[j0,cz];rw[if_neg (fun e=>hk 0 (by simp) (by simpa using e.symm))];exact Cz l (i+1) fun j hj e=>hk (j+1) (by simpa using hj) (by rw[←e];congr 1;omega)
end Go.Proofs.YtojojebildofnaaGreatDoor
