/- Texts of this work, joined. -/
import Derived.Test.YtojojebildofnaaGreatDoorZHDeskKept0
import Derived.WalkKit
import Derived.WalkSmall
import Derived.Tactics2
import Derived.WalkLawsBesides
import Derived.WalkSpells
import Derived.KernelRfl
import Derived.Deep.QuietTactic
import Derived.BigQuiet
import Derived.Outline
import Derived.Lib.Hide
import Derived.Deep.LoopGhost
import Derived.Deep.DeepFit
import Derived.Test.YtojojebildofnaaGreatDoorProg
import Derived.Laws.BitsAllLaws
import Derived.Laws.BitsLemmas
import Derived.RegionTactic
import Derived.Laws.BytesArg
import Derived.Laws.OwnMore
import Derived.Laws.ResultCell
import Derived.Laws.Strings
import Derived.Deep.RegionHeld3
import Derived.Laws.IdiomStrings
import Derived.Laws.AppendOwn
import Derived.WalkMore
import Derived.WideKeyRuns
import Derived.Carry
import Derived.Laws.MakeOwn
set_option linter.unusedSimpArgs false
set_option linter.unusedVariables false
set_option maxRecDepth 100000
set_option maxHeartbeats 16000000
namespace Go.Proofs.YtojojebildofnaaGreatDoor
open Go Go.RowKit Go.Proofs.Tryz
open _root_.List renaming getElem?_eq_getElem → VY, mem_of_getElem? → V0, map_cons → V1, length_take → V2, getElem?_eq_some_iff → V3, take_length → V4, getElem?_map → V7, length_append → V9, length_cons → Wc, length_map → Wg, set_cons_zero → Wi, take_of_length_le → Wj, set_cons_succ → Wl, getElem?_eq_none → Wm, getElem?_take_of_lt → Wo, mem_map → Wp, getElem?_append_right → Wq, length_drop → Wt, getD_eq_getElem?_getD → Ww, all_eq_true → Wx, replicate → Wy, eq_nil_of_length_eq_zero → WA, range → WC, append_assoc → WE, cons_append → WH, mem_cons → WI, mem_append → WJ, getElem?_append_left → WK, mem_of_mem_drop → WL, length_nil → WM, mem_of_mem_take → WN, nil_append → WO, mem_singleton → WP, getElem_of_mem → WR, ext_getElem? → WS, getElem?_drop → WU, append_nil → WV, take_append_of_le_length → WY, getElem_mem → W8, size_toArray → Xb, flatten_cons → Xe, getElem?_cons_succ → Xg, mem_range → Xk, map_congr_left → Xr, toList_toArray → Xs, drop_eq_getElem_cons → Xv, mem_or_eq_of_mem_set → Xw, foldl_cons → XA, mem_map_of_mem → XC, mem_cons_of_mem → XG, take_zero → XH, flatMap_append → XL, length_pos_iff → XM, filter_filter → XN, getElem?_take → XO, take_succ_eq_append_getElem → XT, eq_of_mem_replicate → XY, all_eq_false → X6, foldl_append → X9, take_succ_cons → Yd, getElem?_range → Yw, mem_flatten → Yy, map_map → Yz, length_set → YB, filter_congr → YD, mem_append_left → YH, getElem_map → YK, flatten_append → YQ, range_succ → YT, filter_append → YU, filter_eq_nil_iff → YW, drop_of_length_le → YY, filter_cons → Y3, mem_toArray → Za, drop_append → Zb
open Go.Lib renaming hid → VZ
open _root_.Nat renaming le_refl → Wa, zero_add → Wn, zero_le → Wr, lt_or_ge → Wv, add_zero → Wz, mul_le_mul_right → WX, sub_zero → WZ, lt_of_lt_of_le → W4, le_trans → W6, succ_mul → Xf, sub_self → Xy, add_assoc → XI, mul_comm → XU, add_mul → XV, div_lt_of_lt_mul → X2, lt_trichotomy → X8, eq_zero_or_pos → Yk, div_add_mod → Yq, mod_lt → Y6
open Go.World renaming size_alloc → Wb, cell? → Xl, cell?_of_block → XR, setRow → Yf, ownsRow_nil → YV, alloc_eq → YX
open _root_.Bool renaming and_eq_true → Wd, and_self → WW, and_true → Xa, true_and → Xt, false_eq_true → XF, or_eq_false_iff → Yr, false_and → YG
open _root_.Option renaming map_eq_some_iff → Wh, some → WD, map_some → WQ, getD_some → Xc, bind_some → Xn, map_none → Yb
open _root_.Array renaming getElem?_toList → WB, getElem?_eq_none → WT, getD_eq_getD_getElem? → W3, getElem?_eq_some_iff → W5, getElem?_eq_getElem → Xj, getElem?_modify → Xq, replicate → XB, length_toList → Yc, mem_of_getElem? → Yn, ext' → YA, toList_map → YL, getElem?_setIfInBounds_ne → Y2, toArray_toList → Y4, range → Y8
open _root_.ByteArray renaming size_extract → Xx, size_append → XX, ext → Yg, data_append → Ym, toList_eq → YP
open _root_.Int renaming eq_ofNat_of_zero_le → X7, toNat_of_nonneg → Yx
abbrev cW (w w':World):Prop:=Below w.heap.size w w'
structure Bel (B:Nat)(a w:World):Prop where
 bel:Below B a w
 le:B≤w.heap.size
theorem Bel.refl (w:World):Bel w.heap.size w w:=⟨Below.refl _ _,Wa _⟩
theorem Bel.alloc {B:Nat}{a w:World}(h:Bel B a w)(o:Obj):Bel B a (w.alloc o):=⟨h.bel.alloc h.le o,by have:=h.le;simp;omega⟩
theorem Bel.setCell {B:Nat}{a w:World}(h:Bel B a w){p:Addr}(hp:B≤p.block)(u:Value):Bel B a (w.setCell p u):=
 ⟨h.bel.setCell hp u,by have:=h.le;simpa[World.setCell]using this⟩
theorem aD {B:Nat}{a w:World}(h:Bel B a w){b o:Nat}(hp:B≤b)(u:Value):Bel B a (w.setCell ⟨b,o,none⟩ u):=h.setCell (p:=⟨b,o,none⟩) hp u
theorem Bel.drewN {B:Nat}{a w:World}(h:Bel B a w)(n:Nat):Bel B a (w.drewN n):=⟨below_drewN h.bel n,h.le⟩
theorem Bel.drew {B:Nat}{a w:World}(h:Bel B a w):Bel B a w.drew:=⟨h.bel.drew,h.le⟩
theorem Bel.call {B:Nat}{a w w':World}(h:Bel B a w)(k:cW w w'):Bel B a w':=⟨h.bel.trans (k.mono h.le),W6 h.le k.size⟩
theorem Bel.ext {a w:World}(h:Bel a.heap.size a w):cW a w:=h.bel
theorem Bel.cell {B:Nat}{a w:World}(h:Bel B a w){b off:Nat}{v:Value}(hb:b < B)(hc:a.cell? ⟨b,off,none⟩=some v):w.cell? ⟨b,off,none⟩=some v:=
 (h.bel.cell (p:=⟨b,off,none⟩) hb).trans hc
theorem bk {W w1:World}(hb:cW W w1):(∀b o,b < W.heap.size→w1.cell? ⟨b,o,none⟩=W.cell? ⟨b,o,none⟩)∧(∀b o,b < W.heap.size→w1.frozen? ⟨b,o,none⟩=W.frozen? ⟨b,o,none⟩):=
 ⟨fun b o h=>hb.cell (p:=⟨b,o,none⟩) h,fun b o h=>hb.frozen (p:=⟨b,o,none⟩) h⟩
theorem b8 {W w1:World}(hb:cW W w1):W.heap.size≤w1.heap.size:=hb.size
theorem ab (w:World)(a:Addr)(v:Value):(w.setCell a v).heap.size=w.heap.size:=by simp[World.setCell]
theorem cl {X w1:World}(h:cW X w1){b o:Nat}{v:Value}(hc:X.cell? ⟨b,o,none⟩=some v):w1.cell? ⟨b,o,none⟩=some v:=
 (h.cell (p:=⟨b,o,none⟩) (World.block_lt_of_cell? X ⟨b,o,none⟩ hc)).trans hc
abbrev kJ:=Nat→Prop
def jx (w:World)(b off:Nat)(cs:List Value):Prop:=∀i (h:i < cs.length),w.cell? ⟨b,off+i,none⟩=some cs[i]
structure Sl {α:Type}(A:kJ)(w:World)(k:Nat)(R:List Value→α→Prop)(ao:Option Addr)(cap:Nat)(l:List α):Prop where
 cap_le:l.length≤cap
 cap_max:cap≤9223372036854775807
 elem:∀i (h:i < l.length),∃b off cs,ao=some ⟨b,off,none⟩∧A b∧cs.length=k∧R cs l[i]∧jx w b (off+i*k) cs
def Py {α:Type}(A:kJ)(w:World)(k:Nat)(R:List Value→α→Prop)(v:Value)(l:List α):Prop:=
 ∃ao cap,v= .slice ao l.length cap∧Sl A w k R ao cap l
theorem cQ {w:World}{b off:Nat}{v:Value}(h:w.cell? ⟨b,off,none⟩=some v):b < w.heap.size:=by
 rcases Wv b w.heap.size with hb|hb
 ·exact hb
 ·simp[Xl,WT hb]at h
theorem aC {w:World}{b o:Nat}{cs:Array Value}{t:TypeId}{f:Nat × Nat}{v:Value}(h:w.heap[b]? =some (.cells cs t f))(hv:cs[o]? =some v):w.cell? ⟨b,o,none⟩=some v:=by
 simp[Xl,h,hv]
theorem eV {w:World}{b o:Nat}{cs:Array Value}{t:TypeId}(h:w.heap[b]? =some (.cells cs t (0,0))):w.frozen? ⟨b,o,none⟩=false:=by
 simp[World.frozen?,h]
theorem qM {w w':World}{base:Nat}{e:TypeId}{size n:Nat}{v:Value}{xs:List Value}{b:Nat}{o:Obj}(bf:w.ownsRow base e size v n xs)(hg:w.grownBy w' v.ownBlock)
 (hb:w.heap[b]? =some o) (bq:∀cur,o≠ .cells cur e (0,0)):w'.heap[b]? =some o:=by
 have hlt:b < w.heap.size:=by
  rcases Wv b w.heap.size with h|h
  ·exact h
  ·simp[WT h]at hb
 refine(hg.block b hlt ?_).trans hb;intro he;obtain⟨_,h|⟨g,cap,cur,rfl,_,hh,_⟩⟩:=bf
 ·rw[h.1]at he;cases he
 ·simp only[Value.ownBlock,WD.injEq]at he;rw[←he,hb]at hh;exact bq cur (by simpa using hh)
theorem Bel.grownOwn {B:Nat}{a w w':World}{base:Nat}{e:TypeId}{size n:Nat}{v:Value}{xs:List Value}(h:Bel B a w)(bf:w.ownsRow base e size v n xs)(hg:w.grownBy w' v.ownBlock)(hB:B≤base):Bel B a w':=
 ⟨h.bel.grown hg h.le (fun k hk=>by
  obtain⟨_,h|⟨g,cap,cur,rfl,Uu,_⟩⟩:=bf
  ·rw[h.1]at hk;cases hk
  ·simp only[Value.ownBlock,WD.injEq]at hk;omega),W6 h.le hg.size⟩
theorem bv {w:World}{o:Obj}{b:Nat}{x:Obj}(h:w.heap[b]? =some x):(w.alloc o).heap[b]? =some x:=by
 have hlt:b < w.heap.size:=by
  rcases Wv b w.heap.size with h'|h'
  ·exact h'
  ·simp[WT h']at h
 rw[Below.heap_alloc _ _ _ hlt,h]
theorem bF (w:World)(o:Obj):(w.alloc o).heap[w.heap.size]? =some o:=by
 show (w.heap.push o)[w.heap.size]? =_;simp
theorem iO {w:World}{n:Nat}(o:Obj)(h:w.heap.size=n):(w.alloc o).heap[n]? =some o:=by subst h;exact bF w o
theorem gj {w:World}{b:Nat}:w.drew.heap[b]? =w.heap[b]? :=rfl
theorem jP {w:World}{b o:Nat}{c:Array Value}{t:TypeId}{f:Nat × Nat}(h:w.heap[b]? =some (.cells c t f))(v:Value):(w.setCell ⟨b,o,none⟩ v).heap[b]? =some (.cells (c.setIfInBounds o v) t f):=by
 simp[World.setCell,Xq,h]
theorem dh {w:World}{b:Nat}{a:Addr}(v:Value)(h:a.block≠b):(w.setCell a v).heap[b]? =w.heap[b]? :=Below.heap_setCell _ _ _ _ (fun e=>h e.symm)
theorem pQ {w w':World}(hx:cW w w'){b:Nat}{o:Obj}(hb:w.heap[b]? =some o):w'.heap[b]? =some o:=by
 have hlt:b < w.heap.size:=by
  rcases Wv b w.heap.size with h|h
  ·exact h
  ·simp[WT h]at hb
 rw[hx.block b hlt,hb]
theorem lQ {w w':World}(hx:cW w w'){base:Nat}{e:TypeId}{size n:Nat}{v:Value}{xs:List Value}(h:w.ownsRow base e size v n xs):w'.ownsRow base e size v n xs:=by
 obtain⟨h1,h2⟩:=h;refine⟨h1,?_⟩;rcases h2 with h2|⟨g,cap,cur,hv,hg,hh,r⟩
 ·exact .inl h2
 ·exact .inr ⟨g,cap,cur,hv,hg,pQ hx hh,r⟩
theorem am (w:World)(o:Obj):cW w (w.alloc o):=((Bel.refl w).alloc o).bel
theorem ai {a b c:World}(h:cW a b)(k:cW b c):cW a c:=Below.trans h (Below.mono k h.size)
def Gz (W:World)(R:Value→Prop)(e:Ending)(w':World):Prop:=(∃u,e= .returned u∧R u)∧cW W w'
def Pz (P:Program)(W w:World)(R:Value→Prop):Result Next→Prop
 | .ok (.value u) w'=>w'=w∧R u
 | .ok .skip w'=>w'=w∧R undef
 | .ok (.enter f args) w'=>w'=w∧Calls P f args w (Gz W R)
 |_=>False
attribute [go_sem] Pz
section
variable {P:Program}{ops:Array Oper}{W:World}{Q:Act→Prop}{o:Oper}{rest:List Oper}{a:Act}
theorem vt {w:World}{v:Value}{r:Result Next}(h:∀R:Value→Prop,R v→Pz P W w R r):Oper.quietUpon P (cW W) w v r:=by
 have h1:=h (·=v) rfl;unfold Pz at h1;unfold Oper.quietUpon;split at h1
 ·exact h1
 ·exact⟨h1.1,h1.2.symm⟩
 ·refine⟨h1.1,h1.2.mono ?_⟩;rintro e w' ⟨⟨u,rfl,rfl⟩,hw⟩;exact⟨rfl,hw⟩
 ·exact h1.elim
section
variable {j d:Nat}{v:Value}{W:World}{Q:Act→Prop}
theorem gJ {b:Bool}(hd:(ops[j]?).bind (·.dst)=some d)(hv:a.tmps.toList[d]? =some v)(hb:v= .bool b):yielded ops a.tmps j=some b:=by
 subst hb;rw[WB]at hv;simp[yielded,hd,hv]
theorem oG (hd:(ops[j]?).bind (·.dst)=some d)(hv:a.tmps.toList[d]? =some v)(hb:v=undef):yielded ops a.tmps j=none:=by
 subst hb;rw[WB]at hv;simp[yielded,hd,hv,undef]
theorem b6 (hg:o.guard=none):Region.wanted o (yielded ops a.tmps)=true:=by simp[Region.wanted,hg]
theorem cu {b:Bool}(hg:o.guard=some (j,b))(hd:(ops[j]?).bind (·.dst)=some d)(hv:a.tmps.toList[d]? =some v)(hb:v= .bool b):Region.wanted o (yielded ops a.tmps)=true:=by
 simp[Region.wanted,hg,gJ hd hv hb]
end
end
section
variable {P:Program}{ops:Array Oper}{w:World}{Q:Exit→Act→World→Prop}{a:Act}{n:Nat}{listed:Array Bool}
end
theorem bV {k:IntKind}{a b:Int}(h:a=b):Ending.returned (.int k a)= .returned (.int k b):=by rw[h]
theorem si {a b:Bool}(h:a=b):Ending.returned (.bool a)= .returned (.bool b):=by rw[h]
section
open Go.Proofs
theorem iE (a:Nat)(ha:a < 9223372036854775808):(BitVec.ofInt 64 (a:Int)).toNat=a:=by
 rw[BitVec.ofInt_natCast,BitVec.toNat_ofNat];exact Nat.mod_eq_of_lt (by omega)
theorem ym (a b:Nat)(ha:a < 9223372036854775808)(hb:b < 9223372036854775808):bits .and .i64 (a:Int) (b:Int)=((a&&& b:Nat):Int):=by
 have hx:a&&& b < 2 ^ 63:=Nat.and_lt_two_pow _ (by omega);show IntKind.i64.wrap ((BitVec.ofInt 64 (a:Int)&&& BitVec.ofInt 64 (b:Int)).toNat:Int)=_;rw[BitVec.toNat_and,iE a ha,iE b hb,IntKind.wrap_i64];omega
end
section
open Go.Proofs
theorem nI (b:Nat)(w:World)(c0:Value)(hc:w.cell? ⟨b,0,none⟩=some c0):
 Calls prog 49 #[.pointer (some ⟨b,0,none⟩)] w fun e w'=>
  e= .returned (.slice (some ⟨w.heap.size,0,none⟩) 9 9)∧w'=(w.alloc (.cells #[.pointer (some ⟨b,1,none⟩),.pointer (some ⟨b,2,none⟩),.pointer (some ⟨b,3,none⟩),.pointer (some ⟨b,4,none⟩),.pointer (some ⟨b,5,none⟩),.pointer (some ⟨b,6,none⟩),.pointer (some ⟨b,7,none⟩),.pointer (some ⟨b,8,none⟩),.pointer (some ⟨b,9,none⟩)] 124)).drew:=by
 go_enter func49,ntmps49
 go_wp2_with fail
 go_region
 go_wp2_with fail
 go_ret
 exact⟨rfl,rfl⟩
structure WCmd where
 op:Int
 a:Int
 b:Int
 c:Int
 at_:Int
 len:Int
 min:Int
 max:Int
 usual:Int
 cool:Int
 deriving DecidableEq
def WCmd.nums (c:WCmd):List Int:=[c.a,c.b,c.c,c.at_,c.len,c.min,c.max,c.usual,c.cool]
def WCmd.cs (c:WCmd):Array Value:=#[.int .i64 c.op,.int .i64 c.a,.int .i64 c.b,.int .i64 c.c,.int .i64 c.at_,.int .i64 c.len,.int .i64 c.min,.int .i64 c.max,.int .i64 c.usual,.int .i64 c.cool]
def rE (n:Int):Bool:=decide (-2147483648≤n)&&decide (n≤2147483647)
def Dg (n:Int):List Int:=[n / 16777216 % 256,n / 65536 % 256,n / 256 % 256,n % 256]
theorem CP:(prog.info? 5).map (fun i=>(i.zero,i.size,i.bytes))=some (some (.int .u8 0),1,1):=by kernel_rfl
def wS (b:Nat):Array Value:=#[.pointer (some ⟨b,1,none⟩),.pointer (some ⟨b,2,none⟩),.pointer (some ⟨b,3,none⟩),.pointer (some ⟨b,4,none⟩),.pointer (some ⟨b,5,none⟩),.pointer (some ⟨b,6,none⟩),.pointer (some ⟨b,7,none⟩),.pointer (some ⟨b,8,none⟩),.pointer (some ⟨b,9,none⟩)]
theorem GA (b j:Nat)(h:j < 9):(wS b)[j]? =some (.pointer (some ⟨b,j+1,none⟩)):=by
 match j,h with
 |0,_|1,_|2,_|3,_|4,_|5,_|6,_|7,_|8,_=>rfl
theorem PA (c:WCmd)(j:Nat)(h:j < 9):c.cs[j+1]? =some (.int .i64 (c.nums.getD j 0)):=by
 match j,h with
 |0,_|1,_|2,_|3,_|4,_|5,_|6,_|7,_|8,_=>rfl
theorem vu (c:WCmd)(j:Nat)(h:j < 9):c.nums.take (j+1)=c.nums.take j++[c.nums.getD j 0]:=by
 match j,h with
 |0,_|1,_|2,_|3,_|4,_|5,_|6,_|7,_|8,_=>rfl
def gm (xs:List Int):List Value:=xs.map (.int .u8)
def GB (c:WCmd)(w:World)(n:Nat)(xs:List Int)(v:Value)(wr:World):Prop:=
 wr.ownsRow (w.heap.size+1) 5 1 v n (gm xs)∧wr.heap[w.heap.size]? =some (.cells c.cs 27 (0,0))∧wr.heap[w.heap.size+2]? =some (.cells (wS w.heap.size) 124 (0,0))∧Bel w.heap.size w wr
theorem mR {c:WCmd}{w wr w1:World}{n:Nat}{xs:List Int}{v v':Value}{x:Int}{o:Obj}(h:GB c w n xs v wr)
 (bf:w1.ownsRow (w.heap.size+1) 5 1 v' (n+1) (gm xs++[.int .u8 x])) (hg:(wr.alloc o).grownBy w1 v.ownBlock):GB c w (n+1) (xs++[x]) v' w1:=by
 obtain⟨h1,h2,h3,h4⟩:=h;refine⟨by simpa[gm]using bf,?_,?_,?_⟩
 ·exact qM (h1.alloc o) hg (bv h2) (by intro cur hc;cases hc)
 ·exact qM (h1.alloc o) hg (bv h3) (by intro cur hc;cases hc)
 ·exact(h4.alloc o).grownOwn (h1.alloc o) hg (by omega)
def iP (c:WCmd):Value:=if c.nums.all rE then .tuple #[.string (strOfNums (c.op::c.nums.flatMap Dg)),.int .i64 0]else .tuple #[.string ⟨#[]⟩,.int .i64 3]
theorem GC {P:Program}{w:World}{base e src n:Nat}{v:Value}{xs:List Int}(h:w.ownsRow base e 1 v n (gm xs))(hn:0 < n)(hs:P.underlying src=some (.slice e))(he:P.underlying e=some (.int .u8)):
 ∃g cap,v= .slice (some ⟨g,0,none⟩) n cap∧∀dst,P.underlying dst=some .string→(convert src dst (.slice (some ⟨g,0,none⟩) n cap)).run P w= .ok (.string (strOfNums xs)) w:=by
 obtain⟨hl,h|⟨g,cap,cur,rfl,hg,hh,hle,hm,hs',ht⟩⟩:=h
 ·omega
 ·refine⟨g,cap,rfl,run_convert_bytes_arg w src e hs he g 0 n cap xs (by simpa[gm]using hl) fun i hi=>?_⟩;have Mc:xs.length=n:=by simpa[gm]using hl
  refine aC hh ?_;have h1:(cur.toList.take (n*1))[i]? =(gm xs)[i]? :=by rw[ht]
  rw[Wo (by omega),WB]at h1;simp only[Wn];rw[h1];simp[gm,VY (show i < xs.length by omega)]
theorem GD (c:WCmd)(w:World)(h0:0≤c.op)(h1:c.op≤255):
 Calls prog 23 #[.agg c.cs] w fun e w'=>
  e= .returned (iP c)∧cW w w':=by
 have ei:GB c w 1 [c.op] (.slice (some ⟨w.heap.size+1,0,none⟩) 1 1) ((((w.alloc (.cells c.cs 27)).alloc (.cells #[.int .u8 c.op] 5)).alloc (.cells (wS w.heap.size) 124)).drew):=by
  refine⟨⟨rfl,.inr ⟨w.heap.size+1,1,#[.int .u8 c.op],rfl,Wa _,?_,Wa _,by decide,rfl,rfl⟩⟩,?_,?_,?_⟩
  ·exact gj.trans (bv (by have:=bF (w.alloc (.cells c.cs 27)) (.cells #[.int .u8 c.op] 5);simpa using this))
  ·exact gj.trans (bv (bv (bF _ _)))
  ·exact gj.trans (by have:=bF ((w.alloc (.cells c.cs 27)).alloc (.cells #[.int .u8 c.op] 5)) (.cells (wS w.heap.size) 124);simpa using this)
  ·exact(((Bel.refl w).alloc _).alloc _).alloc _|>.drew
 unfold WCmd.cs wS at ei;replace ei:=VZ ei;unfold WCmd.cs;obtain⟨i0,hi,wL,lE,rT⟩:=info_parts CP;go_enter func23,ntmps23
 go_wp2_with fail
 refine(nI _ _ (.int .i64 c.op) (by go_simp)).mono ?_;rintro e w1 ⟨rfl,rfl⟩;go_wp2_with fail
 go_loopw [4,23] (fun v k wr=>∃j:Nat,j≤9∧k= .int .i64 j∧(∀n∈c.nums.take j,rE n=true)∧GB c w (1+4*j) (c.op::(c.nums.take j).flatMap Dg) v wr) (fun _ k _=>9 - (intOf k).toNat)
 case atStart=>exact⟨0,by omega,rfl,by simp,ei.out⟩
 case round=>
  obtain⟨j,hj,rfl,b7,hrel⟩:=hrel;by_cases hlt:j < 9
  ·obtain⟨bf,Md,Rw,ia⟩:=hrel;obtain⟨n,hn⟩:∃n,n=c.nums.getD j 0:=⟨_,rfl⟩;have ej:(j:Int) < 9:=by omega
   have hp:=aC Rw (GA _ j hlt);have hc:=aC Md (PA c j hlt);rw[←hn]at hc;replace b7:=VZ b7;replace hn:=VZ hn;replace Md:=VZ Md;replace Rw:=VZ Rw;by_cases jK:rE n=true
   ·obtain⟨b1,b2⟩: -2147483648≤n∧n≤2147483647:=by simpa[rE]using jK
    clear jK;clear ei;go_wp2_with fail
    obtain⟨wo,rfl⟩:∃wo:World,wo=wr:=⟨_,rfl⟩;go_loopw [4,8] (fun v2 i wr2=>∃t:Nat,t≤4∧i= .int .i64 (24 - 8*(t:Int))∧GB c w (1+4*j+t) ((c.op::(c.nums.take j).flatMap Dg)++(Dg n).take t) v2 wr2) (fun _ i _=>(intOf i+8).toNat)
    case atStart=>exact⟨0,by omega,rfl,by simpa using bf,Md.out,Rw.out,ia⟩
    case round=>
     obtain⟨t,ht,rfl,gZ,ul,um,jL⟩:=hrel;clear bf hp hc ia;replace ul:=VZ ul;replace um:=VZ um;have hle:=jL.le;match t,ht with
     |0,_=>
      go_wp2_with (at_builtin;refine wpList_append_own _ rfl _ _ 74 rfl (w.heap.size+1) 5 i0 (.int .u8 0) 1 1 underlying74 hi wL lE rT rfl (by decide) _ _ _ rfl (gZ.alloc _) ⟨wr.heap.size,0,none⟩ 1 1 [.int .u8 (n / 16777216 % 256)] rfl rfl (cell_one_new _ _ _) (by intro u hu;simp at hu;subst hu;rfl) (by unfold maxLen;omega) (by omega) (by simp;omega) ?_;intro v' w1 cV ij _)
      have R:=mR (x:=n / 16777216 % 256) ⟨gZ,ul.out,um.out,jL⟩ cV ij;clear cV ij gZ ul um jL;go_roundw
      case rel=>exact⟨0+1,by omega,by go_num,by simpa[Dg,gm,XI]using R⟩
      case measure=>simp[intOf]
     |1,_=>
      go_wp2_with (at_builtin;refine wpList_append_own _ rfl _ _ 74 rfl (w.heap.size+1) 5 i0 (.int .u8 0) 1 1 underlying74 hi wL lE rT rfl (by decide) _ _ _ rfl (gZ.alloc _) ⟨wr.heap.size,0,none⟩ 1 1 [.int .u8 (n / 65536 % 256)] rfl rfl (cell_one_new _ _ _) (by intro u hu;simp at hu;subst hu;rfl) (by unfold maxLen;omega) (by omega) (by simp;omega) ?_;intro v' w1 cV ij _)
      have R:=mR (x:=n / 65536 % 256) ⟨gZ,ul.out,um.out,jL⟩ cV ij;clear cV ij gZ ul um jL;go_roundw
      case rel=>exact⟨1+1,by omega,by go_num,by simpa[Dg,gm,XI]using R⟩
      case measure=>simp[intOf]
     |2,_=>
      go_wp2_with (at_builtin;refine wpList_append_own _ rfl _ _ 74 rfl (w.heap.size+1) 5 i0 (.int .u8 0) 1 1 underlying74 hi wL lE rT rfl (by decide) _ _ _ rfl (gZ.alloc _) ⟨wr.heap.size,0,none⟩ 1 1 [.int .u8 (n / 256 % 256)] rfl rfl (cell_one_new _ _ _) (by intro u hu;simp at hu;subst hu;rfl) (by unfold maxLen;omega) (by omega) (by simp;omega) ?_;intro v' w1 cV ij _)
      have R:=mR (x:=n / 256 % 256) ⟨gZ,ul.out,um.out,jL⟩ cV ij;clear cV ij gZ ul um jL;go_roundw
      case rel=>exact⟨2+1,by omega,by go_num,by simpa[Dg,gm,XI]using R⟩
      case measure=>simp[intOf]
     |3,_=>
      go_wp2_with (at_builtin;refine wpList_append_own _ rfl _ _ 74 rfl (w.heap.size+1) 5 i0 (.int .u8 0) 1 1 underlying74 hi wL lE rT rfl (by decide) _ _ _ rfl (gZ.alloc _) ⟨wr.heap.size,0,none⟩ 1 1 [.int .u8 (n % 256)] rfl rfl (cell_one_new _ _ _) (by intro u hu;simp at hu;subst hu;rfl) (by unfold maxLen;omega) (by omega) (by simp;omega) ?_;intro v' w1 cV ij _)
      have R:=mR (x:=n % 256) ⟨gZ,ul.out,um.out,jL⟩ cV ij;clear cV ij gZ ul um jL;go_roundw
      case rel=>exact⟨3+1,by omega,by go_num,by simpa[Dg,gm,XI]using R⟩
      case measure=>simp[intOf]
     |4,_=>
      go_wp2_with fail
      go_roundw
      case rel=>exact⟨j+1,by omega,by go_num,(by
       intro m hm;rw[vu c j hlt]at hm;rcases WJ.1 hm with hm|hm
       ·exact b7.out m hm
       ·rw[WP.1 hm,←hn.out];simp[rE,b1,b2]),(by
       rw[vu c j hlt,XL,←hn.out];exact⟨by rw[show 1+4*(j+1)=1+4*j+4 from by omega];simpa[Dg,gm]using gZ,ul.out,um.out,jL⟩)⟩
      case measure=>simp[intOf];omega
   ·clear ei;replace jK:=(Bool.not_eq_true _).mp jK;have bq:(wrap64 (wrap32 n) !=n)=true:=by
     rw[bne_iff_ne];intro he;have:¬(-2147483648≤n∧n≤2147483647):=by intro hh;simp[rE,hh]at jK
     unfold wrap64 wrap32 at he;omega
    have hr:iP c= .tuple #[.string ⟨#[]⟩,.int .i64 3]:=by
     have:c.nums.all rE=false:=by
      rw[X6];refine⟨n,?_,by simp[jK]⟩;rw[hn.out];match j,hlt with
      |0,_|1,_|2,_|3,_|4,_|5,_|6,_|7,_|8,_=>simp[WCmd.nums]
     unfold iP;rw[this];rfl
    replace hr:=VZ hr;go_wp2_with fail
    go_ret2
    exact⟨by rw[hr.out];rfl,ia.bel⟩
  ·obtain rfl:j=9:=by omega
   clear ei hlt;obtain⟨bf,-,-,ia⟩:=hrel;obtain⟨g,cap,rfl,wM⟩:=GC (P:=prog) bf (by omega) underlying74 underlying5;replace wM:=wM 9 underlying9;have hr:iP c= .tuple #[.string (strOfNums (c.op::c.nums.flatMap Dg)),.int .i64 0]:=by
    have:c.nums.all rE=true:=by
     rw[Wx];exact b7
    unfold iP;rw[this];rfl
   have ht:c.nums.take 9=c.nums:=rfl;rw[ht]at wM;replace hr:=VZ hr;clear bf b7 ht;go_wp2_with fail
   go_ret2
   exact⟨by rw[hr.out];rfl,ia.bel⟩
end
section
open Go.Proofs
def lR (n lo hi:Int):Bool:=decide (lo≤n)&&decide (n≤hi)
end
section
open Go.Proofs
def WCmd.ns (c:WCmd):Array Value:=#[.int .i64 c.a,.int .i64 c.b,.int .i64 c.c,.int .i64 c.at_,.int .i64 c.len,.int .i64 c.min,.int .i64 c.max,.int .i64 c.usual,.int .i64 c.cool]
def WCmd.ok (c:WCmd):Bool:=lR c.op 0 255&&c.nums.all rE
end
section
open Go.Proofs
def a9 (s:ByteArray):List Int:=s.data.toList.map fun b=>(b.toNat:Int)
theorem eW (s:ByteArray):(a9 s).length=s.size:=by unfold a9;rw[Wg,Yc];rfl
theorem Bn (s:ByteArray):strOfNums (a9 s)=s:=by
 unfold strOfNums a9;rw[Yz];have:(s.data.toList.map ((fun n:Int=>UInt8.ofNat n.toNat)∘fun b=>(b.toNat:Int)))=s.data.toList:=by
  rw[Xr (g:=id)]
  ·simp
  ·intro b _;simp
 rw[this]
def nJ (n:Int):Prop:=0≤n∧n≤255
theorem jy (s:ByteArray):∀n∈a9 s,nJ n:=by
 intro n hn;obtain⟨b,_,rfl⟩:=Wp.1 hn;have:=b.toNat_lt;exact⟨by omega,by omega⟩
theorem nL (xs:List Int)(h:∀n∈xs,nJ n):a9 (strOfNums xs)=xs:=by
 unfold strOfNums a9;simp only[Yz];have:xs.map ((fun b:UInt8=>(b.toNat:Int))∘fun n=>UInt8.ofNat n.toNat)=xs:=by
  rw[Xr (g:=id)]
  ·simp
  ·intro n hn;obtain⟨h0,h1⟩:=h n hn;simp;omega
 exact this
def nM (i:Nat):List Int→Int
 |[]=>0
 |x::xs=>((i:Int)+1)*x+nM (i+1) xs
def lS (l:List Int):Int:=nM 0 l
theorem qN (x:Int):∀(l:List Int) (i:Nat),nM i (l++[x])=nM i l+((i+l.length:Nat)+1:Int)*x
 |[],i=>by simp[nM]
 |y::l,i=>by
  simp only[WH,nM,qN x l (i+1),Wc];rw[show i+1+l.length=i+(l.length+1) from by omega];omega
theorem vv (l:List Int)(x:Int):lS (l++[x])=lS l+((l.length:Int)+1)*x:=by
 unfold lS;rw[qN];simp
theorem Dh (k:Nat)(x:Int)(hk:k≤1000)(h:nJ x):0≤((k:Int)+1)*x∧((k:Int)+1)*x≤300000:=by
 obtain⟨h0,h1⟩:=h;refine⟨Int.mul_nonneg (by omega) h0,?_⟩;calc ((k:Int)+1)*x≤((k:Int)+1)*255:=Int.mul_le_mul_of_nonneg_left h1 (by omega)
  _≤300000:=by omega
theorem GE (l:List Int)(hb:∀n∈l,nJ n):∀k,k≤l.length→k≤1000→0≤lS (l.take k)∧lS (l.take k)≤300000*k:=by
 intro k;induction k with
 |zero=>intro _ _;simp[lS,nM]
 |succ k ih=>
  intro h1 h2;have hlt:k < l.length:=by omega
  rw[XT hlt,vv];have:=ih (by omega) (by omega);have hp:=Dh k l[k] (by omega) (hb _ (W8 hlt));have hl:(l.take k).length=k:=by simp;omega
  rw[hl];push_cast
  omega
theorem sj (s:ByteArray)(k:Nat)(h:k < s.size):(a9 s)[k]'(by rw[eW];exact h)=(s[k].toNat:Int):=by
 simp only[a9,YK];rfl
theorem J2 (s:ByteArray)(w:World)(hs:s.size≤1000):
 Calls prog 54 #[.string s] w fun e w'=>e= .returned (.int .u32 (lS (a9 s)))∧w=w':=by
 have Qa:=jy s;have wN:=GE (a9 s) Qa;have yd:=eW s;replace Qa:=VZ Qa;replace wN:=VZ wN;replace yd:=VZ yd;go_enter func54,ntmps54
 go_wp2_with fail
 go_loop [3,7] (fun t i=>∃k:Nat,k≤s.size∧i= .int .i64 k∧t= .int .u32 (lS ((a9 s).take k))) (fun _ i=>s.size - (intOf i).toNat)
 case atStart=>exact⟨0,Wr _,rfl,rfl⟩
 case round=>
  obtain⟨k,hk,rfl,rfl⟩:=hrel;by_cases hlt:k < s.size
  ·have CQ:=sj s k hlt;have Rx:lS ((a9 s).take (k+1))=lS ((a9 s).take k)+((k:Int)+1)*(s[k].toNat:Int):=by
    rw[XT (by rw[yd.out];exact hlt),vv,CQ];congr 2;simp;rw[yd.out];omega
   obtain⟨p1,p2⟩:=Dh k (s[k].toNat:Int) (by omega) ⟨by omega,by have:=s[k].toNat_lt;omega⟩;obtain⟨q1,q2⟩:=wN.out k (by rw[yd.out];omega) (by omega);obtain⟨q,hq⟩:∃q,q=lS ((a9 s).take k):=⟨_,rfl⟩;rw[←hq]at q1 q2 Rx;replace Rx:=VZ Rx;replace hq:=VZ hq;clear CQ;rw[←hq.out];go_wp2_with fail
   go_round
   case rel=>exact⟨k+1,by omega,by go_num,by
    rw[Rx.out];have hx:=s[k].toNat_lt;have e:((s[k].toNat:Int) % 4294967296)=(s[k].toNat:Int):=by omega
    rw[e];congr 1;omega⟩
   case measure=>simp[intOf];omega
  ·obtain rfl:k=s.size:=by omega
   go_wp2_with fail
   go_ret
   exact⟨bV (by rw[Wj (by rw[yd.out];omega)]),rfl⟩
def J3 (n:Int):List Int:=[n % 256,n / 256 % 256,n / 65536 % 256,n / 16777216 % 256]
def Bo (s:ByteArray):List Int:=(s.size:Int)::a9 s
def gn (s:ByteArray):ByteArray:=strOfNums (Bo s++J3 (lS (Bo s)))
theorem yn (s:ByteArray)(h:s.size≤255):∀n∈Bo s,nJ n:=by
 intro n hn;rcases WI.1 hn with rfl|hn
 ·exact⟨by omega,by omega⟩
 ·exact jy s n hn
theorem sk (xs ys:List Int):strOfNums (xs++ys)=strOfNums xs++strOfNums ys:=by
 apply Yg;rw[Ym];simp[strOfNums]
theorem yo (a b:ByteArray):a9 (a++b)=a9 a++a9 b:=by
 unfold a9;rw[Ym];simp
theorem GF (n:Nat)(h:n≤255):a9 (strOfNums [(n:Int)])=[(n:Int)]:=nL _ (by intro m hm;rw[WP.1 hm];exact⟨by omega,by omega⟩)
theorem GG (s:ByteArray)(h:s.size≤255):a9 (strOfNums [(s.size:Int)]++s)=Bo s:=by
 rw[yo,GF _ h];rfl
theorem vx (s:ByteArray)(h:s.size≤255):strOfNums [(s.size:Int)]++s++strOfNums (J3 (lS (Bo s)))=gn s:=by
 unfold gn Bo;rw[sk,show ((s.size:Int)::a9 s)=[(s.size:Int)]++a9 s from rfl,sk,Bn]
theorem No (s:ByteArray)(h:s.size≤255):0≤lS (Bo s)∧lS (Bo s)≤100000000:=by
 have hl:(Bo s).length=s.size+1:=by simp[Bo,eW]
 have:=GE (Bo s) (yn s h) (Bo s).length (Wa _) (by omega);rw[V4]at this;rw[hl]at this;push_cast at this
 omega
theorem pR (s:ByteArray)(w:World)(hs:s.size≤255):
 Calls prog 25 #[.string s] w fun e w'=>e= .returned (.tuple #[.string (gn s),.int .i64 0])∧cW w w':=by
 have wM:=run_convert_bytes_arg (P:=prog) (w.alloc (.cells #[.int .u8 (s.size:Int)] 5)) 74 5 underlying74 underlying5 w.heap.size 0 1 1 [(s.size:Int)] rfl (fun i hi=>by
  obtain rfl:i=0:=by omega
  exact aC (bF _ _) rfl) 9 underlying9
 have hf:=GG s hs;have OD:=vx s hs;obtain⟨q1,q2⟩:=No s hs;obtain⟨x,hx⟩:∃x,x=strOfNums [(s.size:Int)]:=⟨_,rfl⟩;have Gk:x.size≤1:=by rw[hx,strOfNums_size];simp
 rw[←hx]at wM hf OD;obtain⟨y,hy⟩:∃y,y=x++s:=⟨_,rfl⟩;have AX:y.size≤1000:=by rw[hy,XX];omega
 rw[←hy]at hf OD;obtain⟨q,hq⟩:∃q,q=lS (Bo s):=⟨_,rfl⟩;rw[←hq]at OD q1 q2;have OE:=J2 y (w.alloc (.cells #[.int .u8 (s.size:Int)] 5)) AX;rw[hf,←hq]at OE;have Jj:=run_convert_bytes_arg (P:=prog) ((w.alloc (.cells #[.int .u8 (s.size:Int)] 5)).alloc (.cells #[.int .u8 (q % 256),.int .u8 (q / 256 % 256),.int .u8 (q / 65536 % 256),.int .u8 (q / 16777216)] 5)) 74 5 underlying74 underlying5 (w.heap.size+1) 0 4 4 [q % 256,q / 256 % 256,q / 65536 % 256,q / 16777216] rfl (fun i hi=>by
  have hb:=bF (w.alloc (.cells #[.int .u8 (s.size:Int)] 5)) (.cells #[.int .u8 (q % 256),.int .u8 (q / 256 % 256),.int .u8 (q / 65536 % 256),.int .u8 (q / 16777216)] 5);rw[Wb]at hb;match i,hi with
  |0,_|1,_|2,_|3,_=>exact aC hb rfl) 9 underlying9
 have Qb:[q % 256,q / 256 % 256,q / 65536 % 256,q / 16777216]=J3 q:=by
  unfold J3;rw[show q / 16777216 % 256=q / 16777216 from by omega]
 rw[Qb]at Jj;clear Qb;obtain⟨z,hz⟩:∃z,z=strOfNums (J3 q):=⟨_,rfl⟩;have Gl:z.size≤4:=by rw[hz,strOfNums_size];simp[J3]
 rw[←hz]at Jj OD;have Jk:∀W:World,(Op.stringOp .add x s).run prog W= .ok (.string y) W:=fun W=>by rw[hy];exact run_string_add_sum W x s (by omega)
 have TA:∀W:World,(Op.stringOp .add y z).run prog W= .ok (.string (gn s)) W:=fun W=>by rw[←OD];exact run_string_add_sum W y z (by omega)
 replace hx:=VZ hx;replace hy:=VZ hy;replace hq:=VZ hq;replace hz:=VZ hz;replace hf:=VZ hf;replace OD:=VZ OD;go_enter func25,ntmps25
 go_wp2_with fail
 refine OE.mono ?_;rintro e w1 ⟨rfl,rfl⟩;clear OE wM;go_wp2_with fail
 go_ret2
 refine⟨rfl,Bel.bel (B:=_) ?_⟩;(repeat(first|with_reducible assumption|with_reducible exact Bel.refl _|with_reducible refine Bel.alloc ?_ _|with_reducible refine Bel.drewN ?_ _|with_reducible refine Bel.drew ?_|(with_reducible refine aD ?_ ?_ _;rotate_left;(first|omega|(simp;done)|(simp;omega)))|(with_reducible refine Bel.setCell ?_ (p:=_) ?_ _;rotate_left;(first|(simp;done)|omega|(simp;omega)))|refine Bel.call ?_ (by assumption)|(refine EX.bel ?_ (by assumption) ?_;rotate_left;(first|omega|(simp;omega)))))
end
section
open Go.Proofs
def qO (l:List Int)(i:Nat):Int:=l.getD i 0
def be (l:List Int)(j:Nat):Int:=256*(256*(256*(256*0+qO l (4*j+1))+qO l (4*j+2))+qO l (4*j+3))+qO l (4*j+4)
def Pe (n:Int):Int:=if 2147483648≤n then n - 4294967296 else n
def iQ (l:List Int)(j:Nat):Int:=Pe (be l j)
def sn (l:List Int):WCmd:=⟨qO l 0,iQ l 0,iQ l 1,iQ l 2,iQ l 3,iQ l 4,iQ l 5,iQ l 6,iQ l 7,iQ l 8⟩
theorem GH {l:List Int}(h:∀n∈l,nJ n)(i:Nat):0≤qO l i∧qO l i≤255:=by
 unfold qO;rcases Wv i l.length with hi|hi
 ·simp only[Ww,VY hi,Xc];exact h _ (W8 hi)
 ·simp[Wm hi]
theorem oH (s:ByteArray)(i:Nat)(h:i < s.size):qO (a9 s) i=(s[i].toNat:Int):=by
 unfold qO;rw[Ww,VY (by rw[eW];exact h),Xc,sj s i h]
def oI:Array Value:=#[.int .i64 0,.int .i64 0,.int .i64 0,.int .i64 0,.int .i64 0,.int .i64 0,.int .i64 0,.int .i64 0,.int .i64 0,.int .i64 0]
end
section
open Go.Proofs
theorem Bp {P:Program}(w:World)(src dst e:TypeId)(s:ByteArray)(hs:P.underlying src=some .string)(hd:P.underlying dst=some (.slice e))(he:P.underlying e=some (.int .u8)):
 ∃W2 cap,(convert src dst (.string s)).run P w= .ok (.slice (some ⟨w.heap.size,0,none⟩) s.size cap) W2∧s.size≤cap∧(∀t,t < s.size→W2.cell? ⟨w.heap.size,t,none⟩=some (.int .u8 (qO (a9 s) t)))∧cW w W2:=by
 refine⟨_,_,run_bytes_of_string w src dst e s hs hd he,grownCap_ge _ _ _ _,fun t ht=>?_,?_⟩
 ·have hb:=bytesRow_at s (grownCap w s.size 0 e) t ht;rw[oH s t ht];exact aC (bF w.drew _) hb
 ·exact((Bel.refl w).drew.alloc _).bel
theorem oJ (s:ByteArray)(a n t:Nat)(h:a+n≤s.size)(ht:t < n):qO (a9 (s.extract a (a+n))) t=qO (a9 s) (a+t):=by
 have ck:(s.extract a (a+n)).size=n:=by rw[Xx];omega
 rw[oH _ t (by omega),oH _ (a+t) (by omega)];congr 2;exact ByteArray.getElem_extract ..
theorem wT (n b:Int)(h0:0≤n)(h1:n < 16777216)(h2:0≤b)(h3:b≤255):bits .or .u32 (n*256) b=256*n+b:=by
 obtain⟨n,rfl⟩:=X7 h0;obtain⟨b,rfl⟩:=X7 h2;have e:((n:Int)*256)=((n*256:Nat):Int):=by simp
 rw[e];have hw:∀x:Nat,x < 4294967296→(BitVec.ofInt 32 (x:Int)).toNat=x:=fun x hx=>by
  rw[BitVec.ofInt_natCast,BitVec.toNat_ofNat];exact Nat.mod_eq_of_lt (by omega)
 have ho:n*256|||b=n*256+b:=by
  have:=Nat.shiftLeft_add_eq_or_of_lt (b:=b) (i:=8) (by omega) n;rw[Nat.shiftLeft_eq,show (2:Nat) ^ 8=256 from rfl]at this;omega
 show IntKind.u32.wrap ((BitVec.ofInt 32 _|||BitVec.ofInt 32 _).toNat:Int)=_;rw[BitVec.toNat_or,hw _ (by omega),hw _ (by omega),ho];have Uv:IntKind.u32.signed=false:=rfl;simp[IntKind.wrap,IntKind.bits,Uv];omega
def lT (x:Int)(f:Nat→Int)(j:Nat):Array Value:=#[.int .i64 x,.int .i64 (if 0 < j then f 0 else 0),.int .i64 (if 1 < j then f 1 else 0),.int .i64 (if 2 < j then f 2 else 0),.int .i64 (if 3 < j then f 3 else 0),.int .i64 (if 4 < j then f 4 else 0),.int .i64 (if 5 < j then f 5 else 0),.int .i64 (if 6 < j then f 6 else 0),.int .i64 (if 7 < j then f 7 else 0),.int .i64 (if 8 < j then f 8 else 0)]
theorem vz (x:Int)(f:Nat→Int)(j:Nat)(h:j < 9):(lT x f j).setIfInBounds (j+1) (.int .i64 (f j))=lT x f (j+1):=by
 match j,h with
 |0,_|1,_|2,_|3,_|4,_|5,_|6,_|7,_|8,_=>simp[lT]
theorem GI (x:Int)(f:Nat→Int)(j i:Nat)(h:i < 10):∃v,(lT x f j)[i]? =some v:=⟨(lT x f j)[i]'(by simp[lT];omega),by simp[lT]⟩
theorem Es (l:List Int):lT (qO l 0) (iQ l) 9=(sn l).cs:=by simp[lT,sn,WCmd.cs]
def Et (l:List Int)(w:World)(j:Nat)(wr:World):Prop:=
 wr.heap[w.heap.size]? =some (.cells oI 27 (0,0))∧wr.heap[w.heap.size+1]? =some (.cells (lT (qO l 0) (iQ l) j) 27 (0,0))∧
  wr.heap[w.heap.size+2]? =some (.cells (wS (w.heap.size+1)) 124 (0,0))∧Bel w.heap.size w wr
theorem GJ {l:List Int}{w:World}{j:Nat}{wr W2:World}(h:Et l w j wr)(hx:cW wr W2):Et l w j W2:=by
 obtain⟨h0,h1,h2,h3⟩:=h;have hk:∀{b:Nat}{o:Obj},wr.heap[b]? =some o→W2.heap[b]? =some o:=fun {b o} hb=>by
  have hlt:b < wr.heap.size:=by
   rcases Wv b wr.heap.size with h|h
   ·exact h
   ·simp[WT h]at hb
  rw[hx.block b hlt,hb]
 exact⟨hk h0,hk h1,hk h2,h3.call hx⟩
theorem GK (s:ByteArray)(w:World)(hs:s.size=37):
 Calls prog 44 #[.string s] w fun e w'=>e= .returned (.tuple #[.agg (sn (a9 s)).cs,.int .i64 0])∧cW w w':=by
 have ck:((s.size:Int) !=37)=false:=by rw[hs];rfl
 have hge:37≤s.size:=by omega
 have TB:s.size≤37:=by omega
 clear hs;have F5:=GH (jy s);have e0:=oH s 0 (by omega);obtain⟨x0,Ry⟩:∃x,x=qO (a9 s) 0:=⟨_,rfl⟩;obtain⟨a1,a2⟩:=F5 0;rw[←Ry]at e0 a1 a2;replace e0:=e0.symm;replace Ry:=VZ Ry;replace F5:=VZ F5;have ei:Et (a9 s) w 0 ((((w.alloc (.cells oI 27)).alloc (.cells #[.int .i64 x0,.int .i64 0,.int .i64 0,.int .i64 0,.int .i64 0,.int .i64 0,.int .i64 0,.int .i64 0,.int .i64 0,.int .i64 0] 27)).alloc (.cells (wS (w.heap.size+1)) 124)).drew):=by
  refine⟨gj.trans (bv (bv (bF _ _))),gj.trans (bv ?_),gj.trans ?_,((((Bel.refl w).alloc _).alloc _).alloc _).drew⟩
  ·have:=bF (w.alloc (.cells oI 27)) (.cells #[.int .i64 x0,.int .i64 0,.int .i64 0,.int .i64 0,.int .i64 0,.int .i64 0,.int .i64 0,.int .i64 0,.int .i64 0,.int .i64 0] 27);rw[←Ry.out];simpa[lT]using this
  ·have:=bF ((w.alloc (.cells oI 27)).alloc (.cells #[.int .i64 x0,.int .i64 0,.int .i64 0,.int .i64 0,.int .i64 0,.int .i64 0,.int .i64 0,.int .i64 0,.int .i64 0,.int .i64 0] 27)) (.cells (wS (w.heap.size+1)) 124);simpa using this
 unfold oI wS at ei;replace ei:=VZ ei;go_enter func44,ntmps44
 go_wp2_with fail
 refine(nI _ _ (.int .i64 0) (by go_simp)).mono ?_;rintro e w1 ⟨rfl,rfl⟩;go_wp2_with fail
 go_loopw [26] (fun i wr=>∃j:Nat,j≤9∧i= .int .i64 j∧Et (a9 s) w j wr) (fun i _=>9 - (intOf i).toNat)
 case atStart=>exact⟨0,by omega,rfl,ei.out⟩
 case round=>
  obtain⟨j,hj,rfl,hrel⟩:=hrel;clear ei;by_cases hlt:j < 9
  ·have ej:(j:Int) < 9:=by omega
   have hp:=aC hrel.2.2.1 (GA (w.heap.size+1) j hlt);have R5:(s.extract (1+4*j) (5+4*j)).size=4:=by rw[Xx];omega
   obtain⟨W2,cap,hk,qE,bE,nh⟩:=Bp (P:=prog) wr 9 74 5 (s.extract (1+4*j) (5+4*j)) underlying9 underlying74 underlying5;rw[R5]at hk qE bE;have cz:=GJ hrel nh;have MQ:∀t,t < 4→qO (a9 (s.extract (1+4*j) (5+4*j))) t=qO (a9 s) (4*j+1+t):=fun t ht=>by
    rw[show 5+4*j=(1+4*j)+4 from by omega,oJ s (1+4*j) 4 t (by omega) ht,show 1+4*j+t=4*j+1+t from by omega]
   have q1:=bE 0 (by omega);have q2:=bE 1 (by omega);have q3:=bE 2 (by omega);have q4:=bE 3 (by omega);rw[MQ 0 (by omega)]at q1;rw[MQ 1 (by omega)]at q2;rw[MQ 2 (by omega)]at q3;rw[MQ 3 (by omega)]at q4;obtain⟨f1,f2⟩:=F5.out (4*j+1);obtain⟨b1,b2⟩:=F5.out (4*j+2);obtain⟨c1,c2⟩:=F5.out (4*j+3);obtain⟨d1,d2⟩:=F5.out (4*j+4);obtain⟨x1,nc⟩:∃x,x=qO (a9 s) (4*j+1):=⟨_,rfl⟩;obtain⟨x2,qF⟩:∃x,x=qO (a9 s) (4*j+2):=⟨_,rfl⟩;obtain⟨x3,Gm⟩:∃x,x=qO (a9 s) (4*j+3):=⟨_,rfl⟩;obtain⟨x4,Po⟩:∃x,x=qO (a9 s) (4*j+4):=⟨_,rfl⟩;have Me:iQ (a9 s) j=Pe (256*(256*(256*(256*0+x1)+x2)+x3)+x4):=by rw[nc,qF,Gm,Po];rfl
   rw[show 4*j+1+0=4*j+1 from rfl,←nc]at q1;rw[show 4*j+1+1=4*j+2 from rfl,←qF]at q2;rw[show 4*j+1+2=4*j+3 from rfl,←Gm]at q3;rw[show 4*j+1+3=4*j+4 from rfl,←Po]at q4;rw[←nc]at f1 f2;rw[←qF]at b1 b2;rw[←Gm]at c1 c2;rw[←Po]at d1 d2;clear nc qF Gm Po bE MQ;have hle:=hrel.2.2.2.le;have Qc:=nh.size;replace hrel:=VZ hrel;replace cz:=VZ cz;replace Me:=VZ Me;replace R5:=VZ R5;clear nh qE;go_wp2_with fail
   go_loop [8,41] (fun n k=>(n= .int .u32 0∧k= .int .i64 0)∨(n= .int .u32 x1∧k= .int .i64 1)∨(n= .int .u32 (256*x1+x2)∧k= .int .i64 2)∨(n= .int .u32 (256*(256*x1+x2)+x3)∧k= .int .i64 3)∨(n= .int .u32 (256*(256*(256*x1+x2)+x3)+x4)∧k= .int .i64 4)) (fun _ k=>4 - (intOf k).toNat)
   case atStart=>exact .inl ⟨rfl,rfl⟩
   case round=>
    rcases hrel with⟨rfl,rfl⟩|⟨rfl,rfl⟩|⟨rfl,rfl⟩|⟨rfl,rfl⟩|⟨rfl,rfl⟩
    ·go_wp2_with fail
     exact⟨.inr (.inl ⟨by have h:=wT 0 x1 (by omega) (by omega) (by omega) (by omega);simp at h;rw[h],rfl⟩),by simp[intOf]⟩
    ·go_wp2_with fail
     exact⟨.inr (.inr (.inl ⟨by rw[wT x1 x2 (by omega) (by omega) (by omega) (by omega)],rfl⟩)),by simp[intOf]⟩
    ·go_wp2_with fail
     exact⟨.inr (.inr (.inr (.inl ⟨by rw[wT _ x3 (by omega) (by omega) (by omega) (by omega)],rfl⟩))),by simp[intOf]⟩
    ·go_wp2_with fail
     exact⟨.inr (.inr (.inr (.inr ⟨by rw[wT _ x4 (by omega) (by omega) (by omega) (by omega)],rfl⟩))),by simp[intOf]⟩
    ·obtain⟨old,hold⟩:=GI (qO (a9 s) 0) (iQ (a9 s)) j (j+1) (by omega);have hc:=aC cz.out.2.1 hold;have hf:=eV (o:=j+1) cz.out.2.1;clear hold;by_cases xX:2147483648≤256*(256*(256*x1+x2)+x3)+x4
     ·have MR:=xX;have hv:iQ (a9 s) j=256*(256*(256*x1+x2)+x3)+x4 - 4294967296:=by
       rw[Me.out];unfold Pe;rw[if_pos (by omega)];omega
      have lF:wrap32 (256*(256*(256*x1+x2)+x3)+x4)=256*(256*(256*x1+x2)+x3)+x4 - 4294967296:=by unfold wrap32;omega
      replace hv:=VZ hv;go_wp2_with fail
      have R:Et (a9 s) w (j+1) (W2.setCell ⟨w.heap.size+1,j+1,none⟩ (.int .i64 (256*(256*(256*x1+x2)+x3)+x4 - 4294967296))):=by
       rw[←hv.out];obtain⟨g0,g1,g2,g3⟩:=cz.out;refine⟨(dh _ (by simp)).trans g0,?_,(dh _ (by simp)).trans g2,g3.setCell (by simp) _⟩;rw[jP g1,vz _ _ _ hlt]
      go_roundw
      case rel=>exact⟨j+1,by omega,by go_num,R⟩
      case measure=>simp[intOf];omega
     ·have MR:=xX;have hv:iQ (a9 s) j=256*(256*(256*x1+x2)+x3)+x4:=by
       rw[Me.out];unfold Pe;rw[if_neg (by omega)];omega
      have lF:wrap32 (256*(256*(256*x1+x2)+x3)+x4)=256*(256*(256*x1+x2)+x3)+x4:=by unfold wrap32;omega
      replace hv:=VZ hv;go_wp2_with fail
      have R:Et (a9 s) w (j+1) (W2.setCell ⟨w.heap.size+1,j+1,none⟩ (.int .i64 (256*(256*(256*x1+x2)+x3)+x4))):=by
       rw[←hv.out];obtain⟨g0,g1,g2,g3⟩:=cz.out;refine⟨(dh _ (by simp)).trans g0,?_,(dh _ (by simp)).trans g2,g3.setCell (by simp) _⟩;rw[jP g1,vz _ _ _ hlt]
      go_roundw
      case rel=>exact⟨j+1,by omega,by go_num,R⟩
      case measure=>simp[intOf];omega
  ·obtain rfl:j=9:=by omega
   obtain⟨Md,Ee,-,ia⟩:=hrel;rw[Es]at Ee;have hle:=ia.le;have hz:∀k,k < 10→wr.cell? ⟨w.heap.size,k,none⟩=some (.int .i64 0):=fun k hk=>aC Md (by
    match k,hk with
    |0,_|1,_|2,_|3,_|4,_|5,_|6,_|7,_|8,_|9,_=>rfl)
   have hf:∀k,wr.frozen? ⟨w.heap.size,k,none⟩=false:=fun k=>eV Md;obtain⟨c,hc⟩:∃c,c=sn (a9 s):=⟨_,rfl⟩;rw[←hc]at Ee;have k0:wr.cell? ⟨w.heap.size+1,0,none⟩=some (.int .i64 c.op):=aC Ee rfl;have k1:wr.cell? ⟨w.heap.size+1,1,none⟩=some (.int .i64 c.a):=aC Ee rfl;have k2:wr.cell? ⟨w.heap.size+1,2,none⟩=some (.int .i64 c.b):=aC Ee rfl;have k3:wr.cell? ⟨w.heap.size+1,3,none⟩=some (.int .i64 c.c):=aC Ee rfl;have k4:wr.cell? ⟨w.heap.size+1,4,none⟩=some (.int .i64 c.at_):=aC Ee rfl;have k5:wr.cell? ⟨w.heap.size+1,5,none⟩=some (.int .i64 c.len):=aC Ee rfl;have k6:wr.cell? ⟨w.heap.size+1,6,none⟩=some (.int .i64 c.min):=aC Ee rfl;have k7:wr.cell? ⟨w.heap.size+1,7,none⟩=some (.int .i64 c.max):=aC Ee rfl;have k8:wr.cell? ⟨w.heap.size+1,8,none⟩=some (.int .i64 c.usual):=aC Ee rfl;have k9:wr.cell? ⟨w.heap.size+1,9,none⟩=some (.int .i64 c.cool):=aC Ee rfl;have z0:=hz 0 (by omega);have z1:=hz 1 (by omega);have z2:=hz 2 (by omega);have z3:=hz 3 (by omega);have z4:=hz 4 (by omega);have z5:=hz 5 (by omega);have z6:=hz 6 (by omega);have z7:=hz 7 (by omega);have z8:=hz 8 (by omega);have z9:=hz 9 (by omega);have F6:w.heap.size < wr.heap.size:=cQ z0;replace hz:=VZ hz;replace Md:=VZ Md;replace Ee:=VZ Ee;replace hc:=VZ hc;clear hlt;go_wp2_with fail
   refine bodyPost_ret (v:= .tuple #[.agg c.cs,.int .i64 0]) ?_ rfl ⟨by rw[hc.out],Bel.bel (B:=_) ?_⟩
   ·unfold WCmd.cs;simp[results,results44,go_sem,z0,z1,z2,z3,z4,z5,z6,z7,z8,z9]
   ·(repeat(first|with_reducible assumption|with_reducible exact Bel.refl _|with_reducible refine Bel.alloc ?_ _|with_reducible refine Bel.drewN ?_ _|with_reducible refine Bel.drew ?_|(with_reducible refine aD ?_ ?_ _;rotate_left;(first|omega|(simp;done)|(simp;omega)))|(with_reducible refine Bel.setCell ?_ (p:=_) ?_ _;rotate_left;(first|(simp;done)|omega|(simp;omega)))|refine Bel.call ?_ (by assumption)|(refine EX.bel ?_ (by assumption) ?_;rotate_left;(first|omega|(simp;omega)))))
end
section
open Go.Proofs
def nN (c:WCmd):ByteArray:=strOfNums (c.op::c.nums.flatMap Dg)
def pS (c:WCmd):Value:=if c.ok then .tuple #[.string (nN c),.int .i64 0]else .tuple #[.string ⟨#[]⟩,.int .i64 3]
theorem Eu (c:WCmd)(w:World):
 Calls prog 23 #[.agg c.cs] w fun e w'=>e= .returned (pS c)∧cW w w':=by
 by_cases h:0≤c.op∧c.op≤255
 ·have hv:pS c=iP c:=by
   have:lR c.op 0 255=true:=by simp[lR,h]
   simp[pS,iP,WCmd.ok,this,nN]
  rw[hv];exact GD c w h.1 h.2
 ·have hv:pS c= .tuple #[.string ⟨#[]⟩,.int .i64 3]:=by
   have:lR c.op 0 255=false:=by simp[lR];omega
   simp[pS,WCmd.ok,this]
  rw[hv];clear hv;by_cases h0:c.op < 0
  ·unfold WCmd.cs;clear h;go_enter func23,ntmps23
   go_wp2_with fail
   go_ret2
   exact⟨rfl,((Bel.refl w).alloc _).bel⟩
  ·have h1:255 < c.op:=by omega
   unfold WCmd.cs;clear h;go_enter func23,ntmps23
   go_wp2_with fail
   go_ret2
   exact⟨rfl,((Bel.refl w).alloc _).bel⟩
theorem mS (c:WCmd):(nN c).size=37:=by
 unfold nN;rw[strOfNums_size];simp[WCmd.nums,Dg]
def kK (c:WCmd):ByteArray:=gn (nN c)
theorem lU (c:WCmd):(kK c).size=42:=by
 unfold kK gn;rw[strOfNums_size];simp[Bo,eW,mS,J3]
def jY (l:List WCmd):List UInt8:=l.flatMap fun c=>(kK c).data.toList
def iR (l:List WCmd):ByteArray:=⟨(jY l).toArray⟩
theorem rF (l:List WCmd):(jY l).length=42*l.length:=by
 induction l with
 |nil=>rfl
 |cons c l ih=>
  have:(kK c).data.toList.length=42:=by rw[Yc];exact lU c
  simp only[jY,List.flatMap_cons,V9,Wc,this]at ih ⊢;omega
def WCmd.R (cs:List Value)(c:WCmd):Prop:=cs=c.cs.toList
end
section
open Go.Proofs
theorem jZ (l:List WCmd):(iR l).size=42*l.length:=by
 have:=rF l;show (jY l).toArray.size=_;simpa using this
theorem Np {c:WCmd}(h:c.ok=true):0≤c.op∧c.op≤255∧∀n∈c.nums,rE n=true:=by
 unfold WCmd.ok at h;rw[Wd]at h;obtain⟨h1,h2⟩:=h;unfold lR at h1;rw[Wd]at h1;exact⟨by simpa using h1.1,by simpa using h1.2,Wx.1 h2⟩
end
section
open Go.Proofs
def GL:WCmd:=⟨0,0,0,0,0,0,0,0,0,0⟩
def so (s:ByteArray):WCmd:=if s.size=37 then sn (a9 s)else GL
def vA (s:ByteArray):Value:= .tuple #[.agg (so s).cs,.int .i64 (if s.size=37 then 0 else 1)]
theorem yp (s:ByteArray)(w:World):
 Calls prog 44 #[.string s] w fun e w'=>e= .returned (vA s)∧cW w w':=by
 by_cases h:s.size=37
 ·have:=GK s w h;simpa[vA,so,h]using this
 ·have hv:vA s= .tuple #[.agg GL.cs,.int .i64 1]:=by simp[vA,so,h]
  rw[hv];have ck:((s.size:Int) !=37)=true:=by simp;omega
  clear hv h;unfold GL WCmd.cs;go_enter func44,ntmps44
  go_wp2_with fail
  refine(nI _ _ (.int .i64 0) (by go_simp)).mono ?_;rintro e w1 ⟨rfl,rfl⟩;go_wp2_with fail
  refine bodyPost_ret (v:= .tuple #[.agg #[.int .i64 0,.int .i64 0,.int .i64 0,.int .i64 0,.int .i64 0,.int .i64 0,.int .i64 0,.int .i64 0,.int .i64 0,.int .i64 0],.int .i64 1]) ?_ rfl ⟨rfl,Bel.bel (B:=_) ?_⟩
  ·simp[results,results44,go_sem,World.cell?_alloc_some,World.cell?_setCell_same]
  ·(repeat(first|with_reducible assumption|with_reducible exact Bel.refl _|with_reducible refine Bel.alloc ?_ _|with_reducible refine Bel.drewN ?_ _|with_reducible refine Bel.drew ?_|(with_reducible refine aD ?_ ?_ _;rotate_left;(first|omega|(simp;done)|(simp;omega)))|(with_reducible refine Bel.setCell ?_ (p:=_) ?_ _;rotate_left;(first|(simp;done)|omega|(simp;omega)))|refine Bel.call ?_ (by assumption)|(refine EX.bel ?_ (by assumption) ?_;rotate_left;(first|omega|(simp;omega)))))
end
section
open Go.Proofs
theorem sq {α:Type}{f:α→List Value}{k:Nat}:∀(l:List α),(∀x∈l,(f x).length=k)→∀i (h:i < l.length) j,j < k→(l.flatMap f)[i*k+j]? =(f l[i])[j]?
 |[],_,i,h,_,_=>absurd h (by simp)
 |x::l,hf,i,h,j,hj=>by
  have hx:=hf x (by simp);rw[List.flatMap_cons];match i with
  |0=>rw[WK (by omega)];simp
  |i+1=>
   have e:(i+1)*k+j - k=i*k+j:=by rw[Xf];omega
   rw[Wq (by rw[hx,Xf];omega),hx,e,sq l (fun y hy=>hf y (by simp[hy])) i (by simpa using h) j hj];simp
theorem GM {α:Type}{A:kJ}{w:World}{base k:Nat}{e:TypeId}{v:Value}{l:List α}{f:α→List Value}{n:Nat}(h:w.ownsRow base e k v n (l.flatMap f))(hn:n=l.length)(hf:∀x∈l,(f x).length=k)
 (hA:∀b,base≤b→A b):∃ao cap,v= .slice ao n cap∧Sl A w k (fun cs x=>cs=f x) ao cap l:=by
 subst hn;rcases h.2 with⟨hv,h0⟩|⟨g,cap,cur,hv,hg,hb,hc,hm,ck,ht⟩
 ·refine⟨none,0,by rw[hv,h0],⟨by omega,by decide,fun i hi=>absurd hi (by omega)⟩⟩
 ·subst hv;refine⟨_,cap,rfl,⟨hc,hm,fun i hi=>⟨g,0,f l[i],rfl,hA g hg,hf _ (W8 hi),rfl,fun j hj=>?_⟩⟩⟩;have hj':j < k:=by rw[hf _ (W8 hi)]at hj;exact hj
  have hlt:i*k+j < l.length*k:=by
   have:(i+1)*k≤l.length*k:=WX k hi;rw[Xf]at this;omega
  rw[show 0+i*k+j=i*k+j from by omega,h.cellAt _ hlt,sq l hf i hi j hj',VY hj]
end
section
open Go.Proofs
def Bq (s:ByteArray)(i:Nat):Prop:=i+42≤s.size∧gn (s.extract (i+1) (i+38))=s.extract i (i+42)
theorem yq (t:ByteArray)(h:t.size≤255):qO (a9 (gn t)) 0=t.size:=by
 unfold gn;rw[nL]
 ·rfl
 ·intro n hn;rcases WJ.1 hn with hn|hn
  ·exact yn t h n hn
  ·simp[J3]at hn;rcases hn with rfl|rfl|rfl|rfl<;>exact⟨by omega,by omega⟩
theorem vB {s:ByteArray}{i:Nat}(h:Bq s i):qO (a9 s) i=37:=by
 have h1:=oJ s i 42 0 h.1 (by omega);rw[←h.2,yq _ (by rw[Xx];omega),Xx,Nat.min_eq_left (by have:=h.1;omega)]at h1;rw[show i+0=i from rfl]at h1;rw[←h1];omega
structure Replayed (s:ByteArray)(n:Nat):Prop where
 le:n≤200
 all:∀k,k < n→Bq s (42*k)
 stop:n=200∨¬Bq s (42*n)
theorem Replayed.unique {s:ByteArray}{n m:Nat}(h:Replayed s n)(k:Replayed s m):n=m:=by
 rcases X8 n m with hlt|heq|hlt
 ·rcases h.stop with h1|h1
  ·have:=k.le;omega
  ·exact absurd (k.all n hlt) h1
 ·exact heq
 ·rcases k.stop with h1|h1
  ·have:=h.le;omega
  ·exact absurd (h.all m hlt) h1
def GN (s:ByteArray)(k:Nat):WCmd:=sn (a9 (s.extract (42*k+1) (42*k+38)))
def iS (s:ByteArray)(n:Nat):List WCmd:=(WC n).map (GN s)
theorem ee (s:ByteArray)(n:Nat):(iS s n).length=n:=by simp[iS]
theorem yr (s:ByteArray)(n:Nat):iS s (n+1)=iS s n++[GN s n]:=by simp[iS,YT]
end
section
open Go.Proofs
theorem Br {a b:ByteArray}:a.toList=b.toList↔a=b:=by
 refine⟨fun h=>?_,fun h=>by rw[h]⟩;rw[YP,YP]at h;exact Yg (YA h)
theorem Ev {a b:ByteArray}(h:¬a=b):(a.toList==b.toList)=false:=by
 rw[beq_eq_false_iff_ne];exact fun hx=>h (Br.1 hx)
theorem xW:(prog.info? 27).map (fun i=>(i.zero,i.size,i.bytes))=some (some (.agg #[.int .i64 0,.int .i64 0,.int .i64 0,.int .i64 0,.int .i64 0,.int .i64 0,.int .i64 0,.int .i64 0,.int .i64 0,.int .i64 0]),10,80):=by kernel_rfl
def J4 (s:ByteArray)(w:World)(n:Nat)(v:Value)(wr:World):Prop:=
 wr.ownsRow w.heap.size 27 10 v n ((iS s n).flatMap fun c=>c.cs.toList)∧n≤200∧42*n≤s.size∧(∀k,k < n→Bq s (42*k))∧Bel w.heap.size w wr
def wU (s:ByteArray)(w:World)(e:Ending)(w':World):Prop:=
 ∃n ao cap,Replayed s n∧e= .returned (.tuple #[.slice ao n cap,.int .i64 (42*(n:Int)),.int .i64 0])∧Sl (fun b=>w.heap.size≤b) w' 10 WCmd.R ao cap (iS s n)∧cW w w'
theorem lV {s:ByteArray}{w wr:World}{n:Nat}{v:Value}(h:J4 s w n v wr)(hs:n=200∨¬Bq s (42*n)):wU s w (.returned (.tuple #[v,.int .i64 (42*(n:Int)),.int .i64 0])) wr:=by
 obtain⟨h1,h2,h3,h4,h5⟩:=h;obtain⟨ao,cap,hv,xY⟩:=GM (A:=fun b=>w.heap.size≤b) h1 (ee s n).symm (fun _ _=>rfl) (fun _ hb=>hb);exact⟨n,ao,cap,⟨h2,h4,hs⟩,by rw[hv],xY,h5.bel⟩
theorem Bs (s:ByteArray)(w:World)(hs:s.size≤16384):
 Calls prog 18 #[.string s] w (wU s w):=by
 obtain⟨i0,hi,wL,lE,rT⟩:=info_parts xW;have ei:J4 s w 0 (.slice none 0 0) w:=⟨YV _ _ _ _,by omega,by omega,by omega,Bel.refl w⟩;replace ei:=VZ ei;have F5:=GH (jy s);replace F5:=VZ F5;have Uw:decide ((s.size:Int)>16384)=false:=by simp;omega
 go_enter func18,ntmps18
 go_wp2_with fail
 go_step3
 go_wp2_with fail
 go_step3
 go_wp2_with fail
 go_loopw [5,6] (fun v i wr=>∃n:Nat,i= .int .i64 (42*(n:Int))∧J4 s w n v wr) (fun _ i _=>s.size - (intOf i).toNat)
 case atStart=>exact⟨0,rfl,ei.out⟩
 case round=>
  obtain⟨n,rfl,hrel⟩:=hrel;clear ei;by_cases hlt:42*n < s.size
  ·have ej:42*(n:Int) < s.size:=by omega
   obtain⟨bf,hn,Ef,b7,ia⟩:=hrel;have hle:=ia.le;obtain⟨g,cap,hv⟩:∃ao cap,u5= .slice ao n cap:=by
    obtain⟨ao,cap,hv,-⟩:=GM (A:=fun b=>w.heap.size≤b) bf (ee s n).symm (fun _ _=>rfl) (fun _ hb=>hb);exact⟨ao,cap,hv⟩
   subst hv;by_cases F7:n < 200
   ·have Qd:(n:Int) < 200:=by omega
    have e0:=oH s (42*n) hlt;obtain⟨x,hx⟩:∃x,x=qO (a9 s) (42*n):=⟨_,rfl⟩;obtain⟨a1,a2⟩:=F5.out (42*n);rw[←hx]at e0 a1 a2;replace e0:=e0.symm;replace hx:=VZ hx;replace bf:=VZ bf;replace b7:=VZ b7;by_cases Mf:42*n+x+5≤s.size
    ·obtain⟨m,rfl⟩:∃m:Nat,x=m:=⟨x.toNat,by omega⟩;obtain⟨t,ht⟩:∃t,t=s.extract (42*n+1) (42*n+1+m):=⟨_,rfl⟩;have Qe:t.size=m:=by rw[ht,Xx];omega
     obtain⟨c,hc⟩:∃c,c=so t:=⟨_,rfl⟩;by_cases TC:m=37
     ·subst TC;have Gn:=yp t wr;simp only[vA,Qe,←hc,if_true,WCmd.cs]at Gn;rw[ht]at Gn;have bn:c=GN s n:=by rw[hc,so,if_pos Qe,ht];rfl
      obtain⟨z,hz⟩:∃z,z=gn t:=⟨_,rfl⟩;have Bl:=fun W=>pR t W (by omega);rw[←hz,ht]at Bl;replace ht:=VZ ht;replace hc:=VZ hc;replace hz:=VZ hz;replace Qe:=VZ Qe;replace bn:=VZ bn;replace Bl:=VZ Bl;go_wp2_with fail
      refine Gn.mono ?_;rintro e w1 ⟨rfl,cJ⟩;clear Gn;go_wp2_with fail
      refine(Bl.out _).mono ?_;rintro e w2 ⟨rfl,cN⟩;by_cases hq:z=s.extract (42*n) (42*n+42)
      ·have qG:Bq s (42*n):=⟨by omega,by rw[←hq,hz.out,ht.out]⟩;replace qG:=VZ qG;have qF:cW wr w2:=ai (ai cJ (am _ _)) cN;have gZ:=lQ qF bf.out;have jL:=ia.call qF;have q0:w2.cell? ⟨w1.heap.size,0,none⟩=some (.int .i64 c.op):=cl cN (aC (bF _ _) rfl);have q1:w2.cell? ⟨w1.heap.size,1,none⟩=some (.int .i64 c.a):=cl cN (aC (bF _ _) rfl);have q2:w2.cell? ⟨w1.heap.size,2,none⟩=some (.int .i64 c.b):=cl cN (aC (bF _ _) rfl);have q3:w2.cell? ⟨w1.heap.size,3,none⟩=some (.int .i64 c.c):=cl cN (aC (bF _ _) rfl);have q4:w2.cell? ⟨w1.heap.size,4,none⟩=some (.int .i64 c.at_):=cl cN (aC (bF _ _) rfl);have q5:w2.cell? ⟨w1.heap.size,5,none⟩=some (.int .i64 c.len):=cl cN (aC (bF _ _) rfl);have q6:w2.cell? ⟨w1.heap.size,6,none⟩=some (.int .i64 c.min):=cl cN (aC (bF _ _) rfl);have q7:w2.cell? ⟨w1.heap.size,7,none⟩=some (.int .i64 c.max):=cl cN (aC (bF _ _) rfl);have q8:w2.cell? ⟨w1.heap.size,8,none⟩=some (.int .i64 c.usual):=cl cN (aC (bF _ _) rfl);have q9:w2.cell? ⟨w1.heap.size,9,none⟩=some (.int .i64 c.cool):=cl cN (aC (bF _ _) rfl);have Jl:=jL.le;clear cJ cN ia qF;go_wp2_with (at_builtin;refine wpList_append_own _ rfl _ _ 40 rfl w.heap.size 27 i0 (.agg #[.int .i64 0,.int .i64 0,.int .i64 0,.int .i64 0,.int .i64 0,.int .i64 0,.int .i64 0,.int .i64 0,.int .i64 0,.int .i64 0]) 10 80 underlying40 hi wL lE rT rfl (by decide) _ _ _ rfl (gZ.alloc _) ⟨w2.heap.size,0,none⟩ 1 1 c.cs.toList rfl rfl ?c1 ?c2 (by unfold maxLen;omega) (by omega) (by simp;omega) ?_;rotate_right;intro v' w3 cV ij _)
       case c1=>
        intro u x hu;simp only[WCmd.cs]at hu;match u,hu with
        |0,hu|1,hu|2,hu|3,hu|4,hu|5,hu|6,hu|7,hu|8,hu|9,hu=>simp at hu;subst hu;simp[Addr.add]
       case c2=>intro u hu;simp[WCmd.cs]at hu;rcases hu with rfl|rfl|rfl|rfl|rfl|rfl|rfl|rfl|rfl|rfl<;>rfl
       have R:J4 s w (n+1) v' w3:=by
        refine⟨?_,by omega,by omega,?_,(jL.alloc _).grownOwn (gZ.alloc _) ij (by omega)⟩
        ·rw[yr,XL,←bn.out];simpa using cV
        ·intro k hk;rcases Wv k n with h|h
         ·exact b7.out k h
         ·obtain rfl:k=n:=by omega
          exact qG.out
       clear cV ij gZ jL bf;replace R:=VZ R;go_wp2_with fail
       go_roundw
       case rel=>exact⟨n+1,by go_num,R.out⟩
       case measure=>simp[intOf];omega
      ·have cv:=lV (v:= .slice g n cap) ⟨lQ (ai (ai cJ (am _ _)) cN) bf.out,hn,Ef,b7.out,ia.call (ai (ai cJ (am _ _)) cN)⟩ (.inr (fun hf=>hq (by rw[hz.out,ht.out];exact hf.2)));have AY:(z.toList==(s.extract (42*n) (42*n+1+37+4)).toList)=false:=Ev hq;replace cv:=VZ cv;clear bf hq;go_wp2_with fail
       refine bodyPost_ret ?_ rfl cv.out;simp[results,results18,go_sem]
     ·have Gn:=yp t wr;simp only[vA,Qe,←hc,if_neg TC,WCmd.cs]at Gn;rw[ht]at Gn;have Bl:=fun W=>pR t W (by omega);rw[ht]at Bl;have cv:∀W,cW wr W→wU s w (.returned (.tuple #[.slice g n cap,.int .i64 (42*(n:Int)),.int .i64 0])) W:=fun W hW=>lV ⟨lQ hW bf.out,hn,Ef,b7.out,ia.call hW⟩ (.inr (fun hf=>by have:=vB hf;have:=hx.out;omega));replace cv:=VZ cv;replace ht:=VZ ht;replace hc:=VZ hc;replace Bl:=VZ Bl;go_wp2_with fail
      refine Gn.mono ?_;rintro e w1 ⟨rfl,cJ⟩;clear Gn;go_wp2_with fail
      refine(Bl.out _).mono ?_;rintro e w2 ⟨rfl,cN⟩;have wO:=cv.out w2 (ai (ai cJ (am _ _)) cN);replace cv:=VZ wO;clear wO;go_wp2_with fail
      refine bodyPost_ret ?_ rfl cv.out;simp[results,results18,go_sem]
    ·have cv:=lV ⟨bf.out,hn,Ef,b7.out,ia⟩ (.inr (fun hf=>by have:=vB hf;have:=hf.1;have:=hx.out;omega));replace cv:=VZ cv;go_wp2_with fail
     refine bodyPost_ret ?_ rfl cv.out;simp[results,results18,go_sem]
   ·have cv:=lV ⟨bf,hn,Ef,b7,ia⟩ (.inl (by omega));have Qd:¬(n:Int) < 200:=by omega
    replace cv:=VZ cv;clear bf b7;go_wp2_with fail
    refine bodyPost_ret ?_ rfl cv.out;simp[results,results18,go_sem]
  ·have ej:¬(((42*(n:Int)):Int) < s.size):=by omega
   have cv:=lV hrel (.inr (fun hf=>by have:=hf.1;omega));clear hrel;replace cv:=VZ cv;go_wp2_with fail
   refine bodyPost_ret ?_ rfl cv.out;simp[results,results18,go_sem]
end
section
open Go.Proofs
def GP (s:ByteArray)(w:World)(e:Ending)(w':World):Prop:=
 (s.size≤16384∧wU s w e w')∨(16384 < s.size∧e= .returned (.tuple #[.slice none 0 0,.int .i64 0,.int .i64 2])∧w'=w)
theorem Bt (s:ByteArray)(w:World):
 Calls prog 18 #[.string s] w (GP s w):=by
 by_cases h:s.size≤16384
 ·exact(Bs s w h).mono fun e w' he=> .inl ⟨h,he⟩
 ·have hg:16384 < s.size:=by omega
  have Uw:decide ((s.size:Int)>16384)=true:=by simp;omega
  clear h;go_enter func18,ntmps18
  go_wp2_with fail
  go_step3
  go_wp2_with fail
  refine bodyPost_ret (v:= .tuple #[.slice none 0 0,.int .i64 0,.int .i64 2]) ?_ rfl (.inr ⟨hg,rfl,rfl⟩);simp[results,results18,go_sem]
end
inductive D where
 |v (x:Value)
 |sl (sz:Nat) (rows:List (List D))
 |ept (cells:List D)
 |agg (cells:List D)
 |tup (vs:List D)
 |clo (g:Nat) (caps:List D)
 |nei
def D.one:D→Bool
 | .v x=>x.oneCell'
 | .agg _=>false
 | .tup _=>false
 |_=>true
inductive RepD (M:Nat→Prop) (w:World):D→Value→Prop
 |v (x:Value):RepD M w (.v x) x
 |nil (sz:Nat) (ao:Option Addr) (cap:Nat) (hm:cap≤9223372036854775807):RepD M w (.sl sz []) (.slice ao 0 cap)
 |sl (sz:Nat) (rows:List (List D)) (b off cap:Nat) (f:Nat→Nat→Value) (hM:¬M b) (hb:b < w.heap.size) (hc:rows.length≤cap) (hm:cap≤9223372036854775807)
  (hr:∀r∈rows,r.length=sz) (h1:∀r∈rows,∀d∈r,d.one=true)
  (bE:∀i j,i < rows.length→j < sz→w.cell? ⟨b,off+i*sz+j,none⟩=some (f i j))
  (aV:∀(i j:Nat) (row:List D) (d:D),rows[i]? =some row→row[j]? =some d→RepD M w d (f i j)):RepD M w (.sl sz rows) (.slice (some ⟨b,off,none⟩) rows.length cap)
 |ept (cells:List D) (b off:Nat) (f:Nat→Value) (hM:¬M b) (hb:b < w.heap.size) (h1:∀d∈cells,d.one=true)
  (bE:∀j,j < cells.length→w.cell? ⟨b,off+j,none⟩=some (f j))
  (aV:∀(j:Nat) (d:D),cells[j]? =some d→RepD M w d (f j)):RepD M w (.ept cells) (.pointer (some ⟨b,off,none⟩))
 |agg (cells:List D) (vs:List Value) (hl:cells.length=vs.length) (h1:∀d∈cells,d.one=true)
  (aV:∀(j:Nat) (d:D) (x:Value),cells[j]? =some d→vs[j]? =some x→RepD M w d x):RepD M w (.agg cells) (.agg vs.toArray)
 |tup (ds:List D) (vs:List Value) (hl:ds.length=vs.length)
  (aV:∀(j:Nat) (d:D) (x:Value),ds[j]? =some d→vs[j]? =some x→RepD M w d x):RepD M w (.tup ds) (.tuple vs.toArray)
 |clo (g:Nat) (caps:List D) (vs:List Value) (hl:caps.length=vs.length)
  (aV:∀(j:Nat) (d:D) (x:Value),caps[j]? =some d→vs[j]? =some x→RepD M w d x):RepD M w (.clo g caps) (.func (.func g) #[] vs.toArray)
 |nei (t:TypeId) (x:Value):RepD M w .nei (.iface t x)
structure Keep (M:Nat→Prop)(w:World)(M':Nat→Prop)(w':World):Prop where
 size:w.heap.size≤w'.heap.size
 block:∀b,b < w.heap.size→¬M b→w'.heap[b]? =w.heap[b]?
 mu:∀b,b < w.heap.size→M' b→M b
theorem Keep.refl (M:Nat→Prop)(w:World):Keep M w M w:=⟨Wa _,fun _ _ _=>rfl,fun _ _ h=>h⟩
theorem Keep.ext {M:Nat→Prop}{w w':World}(h:cW w w')(hM:∀b,M b→b < w.heap.size):Keep M w M w':=⟨h.size,fun b hb _=>h.block b hb,fun _ _ h=>h⟩
theorem RepD.keep {M M':Nat→Prop}{w w':World}(hk:Keep M w M' w'){d:D}{x:Value}(h:RepD M w d x):RepD M' w' d x:=by
 induction h with
 |v x=>exact .v x
 |nil sz ao cap hm=>exact .nil sz ao cap hm
 |sl sz rows b off cap f hM hb hc hm hr h1 bE aV ih=>
  refine .sl sz rows b off cap f (fun h=>hM (hk.mu b hb h)) (W4 hb hk.size) hc hm hr h1 (fun i j hi hj=>?_) ih;rw[←bE i j hi hj];exact XR (a:=⟨b,off+i*sz+j,none⟩) (hk.block b hb hM)
 |ept cells b off f hM hb h1 bE aV ih=>
  refine .ept cells b off f (fun h=>hM (hk.mu b hb h)) (W4 hb hk.size) h1 (fun j hj=>?_) ih;rw[←bE j hj];exact XR (a:=⟨b,off+j,none⟩) (hk.block b hb hM)
 |agg cells vs hl h1 aV ih=>exact .agg cells vs hl h1 ih
 |tup ds vs hl aV ih=>exact .tup ds vs hl ih
 |clo g caps vs hl aV ih=>exact .clo g caps vs hl ih
 |nei t x=>exact .nei t x
theorem RepD.one {M:Nat→Prop}{w:World}{d:D}{x:Value}(h:RepD M w d x)(h1:d.one=true):x.oneCell'=true:=by
 cases h<;>first|rfl|exact h1|(simp[D.one]at h1)
def GQ:Nat:=1
def J5:List (Nat × (Array Value→Prop)):=[(GQ,fun vs=>vs=#[.int .u64 1,.int .u64 10,.int .u64 100,.int .u64 1000,.int .u64 10000,.int .u64 100000,.int .u64 1000000,.int .u64 10000000,.int .u64 100000000,.int .u64 1000000000,.int .u64 10000000000,.int .u64 100000000000,.int .u64 1000000000000,.int .u64 10000000000000,.int .u64 100000000000000,.int .u64 1000000000000000,.int .u64 10000000000000000,.int .u64 100000000000000000,.int .u64 1000000000000000000,.int .u64 10000000000000000000])]
def uG (M:Nat→Prop)(w:World):Prop:=∀x∈J5,¬M x.1∧∃vs E sp,w.heap[x.1]? =some (.cells vs E sp)∧x.2 vs
theorem uG.keep {M M':Nat→Prop}{w w':World}(h:uG M w)(hk:Keep M w M' w'):uG M' w':=fun x hx=>by
 obtain⟨h1,vs,E,sp,h2,h3⟩:=h x hx;have hlt:x.1 < w.heap.size:=(W5.1 h2).1;exact⟨fun hm=>h1 (hk.mu _ hlt hm),vs,E,sp,(hk.block _ hlt h1).trans h2,h3⟩
inductive PV where
 |d (x:D)
 |any
 |ptr (k off:Nat)
 |own (k g:Nat)
 |rp (k g sz i j:Nat)
 |osl (k g sz a n:Nat)
 |clo (g:Nat) (caps:List PV)
 |agg (cells:List PV)
 |tup (vs:List PV)
 |mref (k:Nat)
def PV.one:PV→Bool
 | .d x=>x.one
 | .any=>false
 | .agg _=>false
 | .tup _=>false
 |_=>true
def cm:Value→Option Nat
 | .slice (some a) _ (_+1)=>some a.block
 |_=>none
inductive OwnV (w:World) (E sz:Nat):Value→Nat→List Value→Prop
 |nil:OwnV w E sz (.slice none 0 0) 0 []
 |zero (a:Addr):OwnV w E sz (.slice (some a) 0 0) 0 []
 |row (g n cap:Nat) (cur:Array Value) (xs:List Value) (h0:0 < cap) (hh:w.heap[g]? =some (.cells cur E (0,0))) (hn:n≤cap) (hm:cap≤maxLen) (hs:cur.size=cap*sz) (hl:xs.length=n*sz) (ht:cur.toList.take (n*sz)=xs):
  OwnV w E sz (.slice (some ⟨g,0,none⟩) n cap) n xs
theorem OwnV.one {w:World}{E sz:Nat}{v:Value}{n:Nat}{xs:List Value}(h:OwnV w E sz v n xs):v.oneCell'=true:=by cases h<;>rfl
theorem OwnV.len {w:World}{E sz:Nat}{v:Value}{n:Nat}{xs:List Value}(h:OwnV w E sz v n xs):xs.length=n*sz:=by
 cases h with
 |nil=>simp
 |zero=>simp
 |row g n cap cur xs h0 hh hn hm hs hl ht=>exact hl
theorem OwnV.lt {w:World}{E sz:Nat}{v:Value}{n:Nat}{xs:List Value}(h:OwnV w E sz v n xs){b:Nat}(hb:cm v=some b):b < w.heap.size:=by
 cases h with
 |nil=>cases hb
 |zero=>cases hb
 |row g n cap cur xs h0 hh hn hm hs hl ht=>
  obtain⟨cap,rfl⟩:∃c,cap=c+1:=⟨cap - 1,by omega⟩;simp only[cm,WD.injEq]at hb;subst hb;rcases Wv g w.heap.size with hl|hl
  ·exact hl
  ·rw[WT hl]at hh;cases hh
theorem OwnV.same {w w':World}{E sz:Nat}{v:Value}{n:Nat}{xs:List Value}(h:OwnV w E sz v n xs)(hb:∀b,cm v=some b→w'.heap[b]? =w.heap[b]?):OwnV w' E sz v n xs:=by
 cases h with
 |nil=>exact .nil
 |zero a=>exact .zero a
 |row g n cap cur xs h0 hh hn hm hs hl ht=>
  refine .row g n cap cur xs h0 ?_ hn hm hs hl ht;rw[hb g (by obtain⟨cap,rfl⟩:∃c,cap=c+1:=⟨cap - 1,by omega⟩;rfl)];exact hh
structure Cx where
 M:Nat→Prop
 bl:Nat→Option Nat
 ov:Nat→Nat→Option Value
inductive RepP (c:Cx) (w:World):PV→Value→Prop
 |d (x:D) (v:Value) (h:RepD c.M w x v):RepP c w (.d x) v
 |any (v:Value):RepP c w .any v
 |ptr (k off b:Nat) (h:c.bl k=some b):RepP c w (.ptr k off) (.pointer (some ⟨b,off,none⟩))
 |own (k g:Nat) (v:Value) (h:c.ov k g=some v) (h1:v.oneCell'=true):RepP c w (.own k g) v
 |rp (k g sz i j b n cap:Nat) (h:c.ov k g=some (.slice (some ⟨b,0,none⟩) n cap)):RepP c w (.rp k g sz i j) (.pointer (some ⟨b,i*sz+j,none⟩))
 |osl (k g sz a n b o N cap:Nat) (h:c.ov k g=some (.slice (some ⟨b,0,none⟩) N cap)) (hn:a+n≤N) (hc:N≤cap) (ho:a < cap→o=a*sz):RepP c w (.osl k g sz a n) (.slice (some ⟨b,o,none⟩) n (cap - a))
 |clo (g:Nat) (caps:List PV) (vs:List Value) (hl:caps.length=vs.length)
  (aV:∀(j:Nat) (d:PV) (x:Value),caps[j]? =some d→vs[j]? =some x→RepP c w d x):RepP c w (.clo g caps) (.func (.func g) #[] vs.toArray)
 |agg (cells:List PV) (vs:List Value) (hl:cells.length=vs.length) (h1:∀d∈cells,d.one=true)
  (aV:∀(j:Nat) (d:PV) (x:Value),cells[j]? =some d→vs[j]? =some x→RepP c w d x):RepP c w (.agg cells) (.agg vs.toArray)
 |tup (ds:List PV) (vs:List Value) (hl:ds.length=vs.length)
  (aV:∀(j:Nat) (d:PV) (x:Value),ds[j]? =some d→vs[j]? =some x→RepP c w d x):RepP c w (.tup ds) (.tuple vs.toArray)
 |mref (k b:Nat) (h:c.bl k=some b):RepP c w (.mref k) (.map (some b))
structure Cx.le (c c':Cx):Prop where
 bl:∀k b,c.bl k=some b→c'.bl k=some b
 ov:∀k g v,c.ov k g=some v→c'.ov k g=some v
theorem Cx.le_refl (c:Cx):c.le c:=⟨fun _ _ h=>h,fun _ _ _ h=>h⟩
theorem RepP.keep {c c':Cx}{w w':World}(hc:c.le c')(hk:Keep c.M w c'.M w'){d:PV}{x:Value}(h:RepP c w d x):RepP c' w' d x:=by
 induction h with
 |d x v h=>exact .d x v (h.keep hk)
 |any v=>exact .any v
 |ptr k off b h=>exact .ptr k off b (hc.bl _ _ h)
 |own k g v h h1=>exact .own k g v (hc.ov _ _ _ h) h1
 |rp k g sz i j b n cap h=>exact .rp k g sz i j b n cap (hc.ov _ _ _ h)
 |osl k g sz a n b o N cap h hn uE ho=>exact .osl k g sz a n b o N cap (hc.ov _ _ _ h) hn uE ho
 |clo g caps vs hl aV ih=>exact .clo g caps vs hl ih
 |agg cells vs hl h1 aV ih=>exact .agg cells vs hl h1 ih
 |tup ds vs hl aV ih=>exact .tup ds vs hl ih
 |mref k b h=>exact .mref k b (hc.bl _ _ h)
theorem RepP.one {c:Cx}{w:World}{d:PV}{x:Value}(h:RepP c w d x)(h1:d.one=true):x.oneCell'=true:=by
 cases h with
 |d x v h=>exact h.one h1
 |any=>simp[PV.one]at h1
 |ptr=>rfl
 |own k g v h h2=>exact h2
 |agg=>simp[PV.one]at h1
 |tup=>simp[PV.one]at h1
 |_=>rfl
inductive Chunk where
 |none
 |gone
 |box (T:Nat) (cells:List PV)
 |row (E sz g:Nat) (rows:List (List PV))
 |mp (n:Nat) (s:Bool) (ents:List (List Int × Int))
 |it (n:Nat) (s:Bool) (ents:List (List Int × Int)) (seen:List Nat)
def aa (rows:List (List D)):List (List PV):=rows.map (·.map .d)
def f6 (s:Bool)(ks:List Int):Value:=if s then .agg (ks.map (.int .i64)).toArray else .int .i64 (ks.headD 0)
def aU (s:Bool):List (List Int × Int)→Nat→List MapEntry
 |[],_=>[]
 |(k,v)::l,i=>{key:=f6 s k,val:= .int .i64 v,born:=i}::aU s l (i+1)
def Cx.block (c:Cx)(k:Nat):Chunk→Option Nat
 | .box _ _=>c.bl k
 | .row _ _ g _=>(c.ov k g).bind cm
 | .mp _ _ _=>c.bl k
 | .it _ _ _ _=>c.bl k
 |_=>Option.none
def aZ (c:Cx)(w:World)(ds:List PV)(vs:List Value):Prop:=ds.length=vs.length∧∀(j:Nat) (d:PV) (x:Value),ds[j]? =some d→vs[j]? =some x→RepP c w d x
def cS (M:Nat→Prop)(w:World)(ds:List D)(vs:List Value):Prop:=ds.length=vs.length∧∀(j:Nat) (d:D) (x:Value),ds[j]? =some d→vs[j]? =some x→RepD M w d x
theorem aZ.keep {c c':Cx}{w w':World}(hc:c.le c')(hk:Keep c.M w c'.M w'){ds:List PV}{vs:List Value}(h:aZ c w ds vs):aZ c' w' ds vs:=⟨h.1,fun j d x h1 h2=>(h.2 j d x h1 h2).keep hc hk⟩
theorem cS.keep {M M':Nat→Prop}{w w':World}(hk:Keep M w M' w'){ds:List D}{vs:List Value}(h:cS M w ds vs):cS M' w' ds vs:=⟨h.1,fun j d x h1 h2=>(h.2 j d x h1 h2).keep hk⟩
inductive ChunkOK (c:Cx) (w:World) (k:Nat):Chunk→Prop
 |none (h1:c.bl k= .none) (h2:∀g,c.ov k g= .none):ChunkOK c w k .none
 |gone:ChunkOK c w k .gone
 |box (T:Nat) (cells:List PV) (b:Nat) (vs:List Value) (hb:c.bl k=some b) (hh:w.heap[b]? =some (.cells vs.toArray T (0,0))) (hr:aZ c w cells vs) (h1:∀d∈cells,d.one=true):ChunkOK c w k (.box T cells)
 |row (E sz g:Nat) (rows:List (List PV)) (v:Value) (xs:List Value) (hv:c.ov k g=some v) (bf:OwnV w E sz v rows.length xs) (hr:aZ c w rows.flatten xs)
  (ck:∀r∈rows,r.length=sz) (h1:∀r∈rows,∀d∈r,d.one=true) (hg:∀g',g < g'→c.ov k g'= .none):ChunkOK c w k (.row E sz g rows)
 |mp (n:Nat) (s:Bool) (ents:List (List Int × Int)) (b:Nat) (hb:c.bl k=some b) (hh:w.heap[b]? =some (.map (aU s ents 0).toArray ents.length)) (hn:∀kv∈ents,kv.1.length=n):ChunkOK c w k (.mp n s ents)
 |it (n:Nat) (s:Bool) (ents:List (List Int × Int)) (seen:List Nat) (b bm:Nat) (hb:c.bl k=some b) (hh:w.heap[b]? =some (.mapIter (some bm) ents.length seen.toArray ents.length)) (hM:¬c.M bm) (hm:w.heap[bm]? =some (.map (aU s ents 0).toArray ents.length)):ChunkOK c w k (.it n s ents seen)
structure FS where
 env:Nat→PV
 heap:Nat→Chunk
structure ExtL (L:Nat→Prop)(w w':World):Prop where
 os:w'.os=w.os
 tape:w'.tape=w.tape
 output:w'.output=w.output
 size:w.heap.size≤w'.heap.size
 block:∀b,b < w.heap.size→¬L b→w'.heap[b]? =w.heap[b]?
theorem ExtL.refl (L:Nat→Prop)(w:World):ExtL L w w:=⟨rfl,rfl,rfl,Wa _,fun _ _ _=>rfl⟩
theorem ExtL.trans {L:Nat→Prop}{w w' w'':World}(h:ExtL L w w')(g:ExtL L w' w''):ExtL L w w'':=
 ⟨g.os.trans h.os,g.tape.trans h.tape,g.output.trans h.output,W6 h.size g.size,fun b hb hl=>(g.block b (W4 hb h.size) hl).trans (h.block b hb hl)⟩
theorem ExtL.of_ext {L:Nat→Prop}{w w':World}(h:cW w w'):ExtL L w w':=⟨h.os,h.tape,h.output,h.size,fun b hb _=>h.block b hb⟩
theorem ExtL.ext {w w':World}(h:ExtL (fun _=>False) w w'):cW w w':=⟨h.os,h.tape,h.output,h.size,fun b hb=>h.block b hb id⟩
structure Cfg where
 P:Program
 n:Nat
 m:Nat
 w0:World
 M0:Nat→Prop
 L:Nat→Prop
 c0:Cx
structure RealC (X:Cfg)(s:FS)(a:Act)(w:World)(c:Cx):Prop where
 size:a.tmps.size=X.n
 defers:a.defers=[]
 ext:ExtL X.L X.w0 w
 inv:uG (fun b=>X.M0 b∨X.L b) X.w0
 fresh:∀b,X.M0 b→b < X.w0.heap.size∧¬X.L b
 mu:∀b,c.M b↔X.M0 b∨∃k,c.block k (s.heap k)=some b
 new:∀k b,c.block k (s.heap k)=some b→(X.L b∨X.w0.heap.size≤b)∧b < w.heap.size
 apart:∀k k' b,c.block k (s.heap k)=some b→c.block k' (s.heap k')=some b→k=k'
 env:∀t,RepP c w (s.env t) (a.tmps.getD t undef)
 chunk:∀k,ChunkOK c w k (s.heap k)
 lent:∀k,k < X.m→c.bl k=X.c0.bl k∧∀g v,X.c0.ov k g=some v→c.ov k g=some v
theorem RealC.ginv {X:Cfg}{s:FS}{a:Act}{w:World}{c:Cx}(h:RealC X s a w c):uG c.M w:=
 h.inv.keep ⟨h.ext.size,fun b hb hn=>h.ext.block b hb (fun hl=>hn (.inr hl)),fun b hb hm=>by
  rcases(h.mu b).1 hm with h0|⟨k,hk⟩
  ·exact .inl h0
  ·rcases(h.new k b hk).1 with h1|h1
   ·exact .inr h1
   ·omega⟩
def il (X:Cfg)(s:FS)(a:Act)(w:World):Prop:=∃c,RealC X s a w c
structure Res where
 pv:PV
 eff:List (Nat × Chunk):=[]
 touch:List Nat:=[]
def bS:List (Nat × Chunk)→(Nat→Chunk)→Nat→Chunk
 |[],h=>h
 |(k,c)::l,h=>fun k'=>if k'=k then c else bS l h k'
def FS.put (s:FS)(dst:Option Nat)(p:PV):FS:=
 match dst with
 |some d=>{s with env:=fun t=>if t=d then p else s.env t}
 |none=>s
def FS.app (s:FS)(dst:Option Nat)(r:Res):FS:=FS.put {s with heap:=bS r.eff s.heap} dst r.pv
def bj (X:Cfg)(ops:Array Oper)(s:FS)(o:Oper)(r:Res):Prop:=
 (∀d,o.dst=some d→d < X.n)∧(∀kc∈r.eff,kc.1∈r.touch)∧
 ∀s':FS,(∀t∈o.looksAt ops,s'.env t=s.env t)→(∀k∈r.touch,s'.heap k=s.heap k)→∀a w,il X s' a w→
  ∀K Q,(∀v w',il X (s'.app o.dst r) (a.put o.dst v) w'→K (a.put o.dst v) w')→Oper.wp X.P o a w K Q
structure It where
 o:Oper
 want:Bool
 res:Res
def wV (ops:Array Oper)(s:FS)(j:Nat):Option (Option Bool):=
 match (ops[j]?).bind (·.dst)with
 |none=>some none
 |some t=>match s.env t with
  | .d (.v (.bool b))=>some (some b)
  | .d (.v (.tuple _))=>some none
  |_=>none
def lW (ops:Array Oper)(s:FS)(o:Oper):Option Bool:=
 match o.guard with
 |none=>some true
 |some (j,want)=>(wV ops s j).map (·==some want)
def Bu:Res:={pv:= .d (.v undef)}
def GR (X:Cfg)(ops:Array Oper)(s:FS)(it:It):Prop:=
 lW ops s it.o=some it.want∧(it.want=true→bj X ops s it.o it.res)∧(it.want=false→it.res=Bu∧∀d,it.o.dst=some d→d < X.n)
theorem RealC.put {X:Cfg}{s:FS}{a:Act}{w:World}{c:Cx}(h:RealC X s a w c){p:PV}{v:Value}(hp:RepP c w p v){dst:Option Nat}(hd:∀d,dst=some d→d < X.n):
 RealC X (s.put dst p) (a.put dst v) w c:=by
 cases dst with
 |none=>exact h
 |some d=>
  have hd:=hd d rfl;refine⟨by simpa[Act.put]using h.size,by simpa[Act.put]using h.defers,h.ext,h.inv,h.fresh,h.mu,h.new,h.apart,fun t=>?_,h.chunk,h.lent⟩;by_cases ht:t=d
  ·subst ht;have hs:t < a.tmps.size:=by rw[h.size];exact hd
   simp only[FS.put,Act.put,if_true,W3,Array.getElem?_setIfInBounds,hs];simpa[hs]using hp
  ·have bq:d≠t:=fun e=>ht e.symm;have:=h.env t;simp only[FS.put,Act.put,if_neg ht,W3,Y2 bq];simpa[W3]using this
theorem RealC.bool {X:Cfg}{s:FS}{a:Act}{w:World}{c:Cx}(h:RealC X s a w c){t:Nat}{x:Value}(ht:s.env t= .d (.v x)):a.tmps.getD t undef=x:=by
 have:=h.env t;rw[ht]at this;cases this with
 |d x v h=>cases h with|v=>rfl
theorem GS {X:Cfg}{ops:Array Oper}{s:FS}{a:Act}{w:World}{o:Oper}{g:Bool}(h:il X s a w)(hg:lW ops s o=some g):Region.wanted o (yielded ops a.tmps)=g:=by
 obtain⟨c,h⟩:=h;unfold lW at hg;unfold Region.wanted;split at hg
 ·rename_i hn;simp only[hn];exact WD.inj hg
 ·rename_i j want hj;simp only[hj];unfold wV at hg;unfold yielded;split at hg
  ·rename_i hn;rw[hn];simp at hg;simpa using hg
  ·rename_i t hn;rw[hn];split at hg
   ·rename_i b hb;have:=h.bool hb;rw[W3]at this;cases hx:a.tmps[t]? with
    |none=>rw[hx]at this;simp[undef]at this
    |some y=>
     rw[hx]at this;simp at this;subst this;simp only[Xn,hx];simpa using hg
   ·rename_i vs hb;have:=h.bool hb;rw[W3]at this;cases hx:a.tmps[t]? with
    |none=>simp only[Xn,hx];simpa using hg
    |some y=>
     rw[hx]at this;simp at this;subst this;simp only[Xn,hx];simpa using hg
   ·simp at hg
theorem GT {X:Cfg}{ops:Array Oper}{s s':FS}{it:It}{i:Nat}{a:Act}{w:World}{K:Act→World→Prop}{Q:Exit→Act→World→Prop}(hi:ops[i]? =some it.o)(h:GR X ops s it)
 (he:∀t∈it.o.looksAt ops,s'.env t=s.env t) (hk:∀k∈it.res.touch,s'.heap k=s.heap k) (hr:il X s' a w)
 (hK:∀v w',il X (s'.app it.o.dst it.res) (a.put it.o.dst v) w'→K (a.put it.o.dst v) w'):wpOp X.P ops Q i K a w:=by
 obtain⟨h1,h2,h3⟩:=h;have hg:lW ops s' it.o=some it.want:=by
  rw[←h1];unfold lW;split
  ·rfl
  ·rename_i j want hj;unfold wV;cases hd:(ops[j]?).bind (·.dst)with
   |none=>rfl
   |some t=>
    have:=he t (by simp[Oper.looksAt,hj,hd]);simp only[this]
 have hw:=GS hr hg;unfold wpOp;simp only[hi,hw];cases MS:it.want with
 |true=>
  simp only[if_true];exact .inl ((h2 MS).2.2 s' he hk a w hr K Q hK)
 |false=>
  obtain⟨CR,qH⟩:=h3 MS;simp only[XF,if_false];refine hK undef w ?_;rw[CR];obtain⟨c,hc⟩:=hr;exact⟨c,hc.put (.d _ _ (.v _)) qH⟩
def im (X:Cfg)(ops:Array Oper):FS→Nat→List It→Prop
 |_,i,[]=>i=ops.size
 |s,i,it::its=>ops[i]? =some it.o∧GR X ops s it∧im X ops (s.app it.o.dst it.res) (i+1) its
def pT (s:FS)(its:List It):FS:=its.foldl (fun s it=>s.app it.o.dst it.res) s
theorem sr {X:Cfg}{ops:Array Oper}{Q:Exit→Act→World→Prop}:∀(its:List It) (s:FS) (i:Nat) (a:Act) (w:World),im X ops s i its→il X s a w→
 (∀a' w',il X (pT s its) a' w'→Q .normal a' w')→wpOps X.P ops Q (List.range' i its.length) a w
 |[],_,_,a,w,_,hr,hQ=>hQ a w hr
 |it::its,s,i,a,w,⟨hi,MT,ht⟩,hr,hQ=>by
  rw[Wc,List.range'_succ,wpOps_cons];exact GT hi MT (fun _ _=>rfl) (fun _ _=>rfl) hr fun v w' hr'=>sr its _ _ _ _ ht hr' hQ
theorem ss {X:Cfg}{ops:Array Oper}:∀(its:List It) (s:FS) (i:Nat),im X ops s i its→i+its.length=ops.size∧∀j it,its[j]? =some it→ops[i+j]? =some it.o∧GR X ops (pT s (its.take j)) it
 |[],_,_,h=>⟨by simpa[im]using h,fun j it h=>by simp at h⟩
 |it::its,s,i,⟨h1,h2,h3⟩=>by
  obtain⟨ih1,ih2⟩:=ss its _ _ h3;refine⟨by simp only[Wc];omega,fun j x hj=>?_⟩;cases j with
  |zero=>
   simp at hj;subst hj;exact⟨h1,h2⟩
  |succ j=>
   have:=ih2 j x (by simpa using hj);refine⟨by rw[show i+(j+1)=i+1+j by omega];exact this.1,this.2⟩
def Bv (l:List Nat)(es:List Edge):Nat:=es.foldl (fun s e=>if Region.binds .any e then s|||2 ^ e.on|||l.getD e.on 0 else s) 0
def uH (ops:Array Oper):Nat→List Nat
 |0=>[]
 |n+1=>let l:=uH ops n;l++[Bv l (((ops[n]?).map (·.after.toList)).getD [])]
def lX (ops:Array Oper)(L:Nat→Bool):Prop:=∀j o,ops[j]? =some o→L j=true→∀e∈o.after.toList,Region.binds .any e=true→L e.on=true
theorem su (l:List Nat)(i:Nat):∀(es:List Edge) (s:Nat),(es.foldl (fun s e=>if Region.binds .any e then s|||2 ^ e.on|||l.getD e.on 0 else s) s).testBit i=true→
 s.testBit i=true∨∃e∈es,Region.binds .any e=true∧(e.on=i∨(l.getD e.on 0).testBit i=true)
 |[],s,h=> .inl h
 |e::es,s,h=>by
  rw[XA]at h;rcases su l i es _ h with h|⟨e',h1,h2⟩
  ·by_cases hb:Region.binds .any e=true
   ·rw[if_pos hb,Nat.testBit_or,Nat.testBit_or,Nat.testBit_two_pow]at h;simp only[Bool.or_eq_true,decide_eq_true_eq]at h;rcases h with (h|h)|h
    ·exact .inl h
    ·exact .inr ⟨e,by simp,hb,.inl h⟩
    ·exact .inr ⟨e,by simp,hb,.inr h⟩
   ·rw[if_neg hb]at h;exact .inl h
  ·exact .inr ⟨e',XG _ h1,h2⟩
theorem qP (ops:Array Oper):∀n,(uH ops n).length=n
 |0=>rfl
 |n+1=>by simp[uH,qP ops n]
theorem go {ops:Array Oper}{L:Nat→Bool}(hc:lX ops L):∀n j i,((uH ops n).getD j 0).testBit i=true→L j=true→L i=true
 |0,j,i,h,_=>by simp[uH]at h
 |n+1,j,i,h,hj=>by
  have bc:=qP ops n;simp only[uH,Ww,List.getElem?_append]at h;split at h
  ·exact go hc n j i (by simpa[Ww]using h) hj
  ·rename_i hge;rcases Wv n j with hnj|hnj
   ·rw[bc]at h;rw[show ([Bv (uH ops n) (((ops[n]?).map (·.after.toList)).getD [])]:List Nat)[j - n]? =none by simp;omega]at h;simp at h
   ·obtain rfl:j=n:=by omega
    rw[bc,Xy]at h;simp only[List.getElem?_cons_zero,Xc]at h;unfold Bv at h;cases ho:ops[j]? with
    |none=>simp[ho]at h
    |some o=>
     rw[ho]at h;rcases su _ _ _ _ h with h|⟨e,h1,h2,h3⟩
     ·simp at h
     ·have he:=hc j o ho hj e (by simpa using h1) h2;rcases h3 with h3|h3
      ·rw[←h3];exact he
      ·exact go hc j e.on i (by simpa[Ww]using h3) he
def sv (ops:Array Oper)(x y:Oper)(kx ky tx ty:List Nat):Bool:=x.apart ops y&&kx.all (fun k=>!ty.contains k)&&ky.all (fun k=>!tx.contains k)
def lY (ops:Array Oper)(sm:List (List Nat × List Nat)):Bool:=
 let l:=uH ops ops.size
 (WC ops.size).all fun j=>(WC j).all fun i=>(l.getD j 0).testBit i||
  (match ops[i]?,ops[j]? with
   |some x,some y=>sv ops x y (sm.getD i ([],[])).1 (sm.getD j ([],[])).1 (sm.getD i ([],[])).2 (sm.getD j ([],[])).2
   |_,_=>false)
def yt (its:List It)(s:FS)(i:Nat):FS:=match its[i]? with|some it=>s.app it.o.dst it.res|none=>s
def j0 (s:FS)(its:List It)(L:Nat→Bool):FS:=((WC its.length).filter L).foldl (yt its) s
def dv (its:List It)(t:Nat)(i:Nat):Bool:=match its[i]? with|some it=>it.o.dst==some t|none=>false
def cX (its:List It)(k:Nat)(i:Nat):Bool:=match its[i]? with|some it=>(it.res.eff.map (·.1)).contains k|none=>false
theorem wW {k:Nat}{h:Nat→Chunk}:∀{l:List (Nat × Chunk)},(l.map (·.1)).contains k=false→bS l h k=h k
 |[],_=>rfl
 |(k',c)::l,hn=>by
  simp only[V1,List.contains_cons,Yr,beq_eq_false_iff_ne,ne_eq]at hn;simp only[bS,if_neg hn.1];exact wW hn.2
theorem wX {k:Nat}{h h':Nat→Chunk}:∀{l:List (Nat × Chunk)},(l.map (·.1)).contains k=true→bS l h k=bS l h' k
 |[],hn=>by simp at hn
 |(k',c)::l,hn=>by
  simp only[bS];split
  ·rfl
  ·rename_i bq;refine wX ?_;simpa[bq]using hn
theorem oK {s:FS}{dst:Option Nat}{r:Res}{t:Nat}:(s.app dst r).env t=if dst=some t then r.pv else s.env t:=by
 cases dst with
 |none=>simp[FS.app,FS.put]
 |some d=>
  simp only[FS.app,FS.put,WD.injEq];by_cases h:t=d
  ·subst h;simp
  ·rw[if_neg h,if_neg (fun e=>h e.symm)]
theorem lZ {s:FS}{dst:Option Nat}{r:Res}{k:Nat}:(s.app dst r).heap k=bS r.eff s.heap k:=by
 cases dst<;>rfl
theorem oL (its:List It)(t:Nat):∀(l:List Nat) (s:FS),(l.foldl (yt its) s).env t=((l.filter (dv its t)).foldl (yt its) s).env t:=by
 have key:∀(l:List Nat) (s s':FS),s.env t=s'.env t→(l.foldl (yt its) s).env t=((l.filter (dv its t)).foldl (yt its) s').env t:=by
  intro l;induction l with
  |nil=>intro s s' h;exact h
  |cons i l ih=>
   intro s s' h;rw[XA,Y3];by_cases hw:dv its t i=true
   ·rw[if_pos hw,XA];refine ih _ _ ?_;unfold yt;unfold dv at hw;split<;>rename_i hi<;>rw[hi]at hw
    ·rw[oK,oK,if_pos (by simpa using hw),if_pos (by simpa using hw)]
    ·cases hw
   ·rw[if_neg hw];refine ih _ _ ?_;unfold yt;unfold dv at hw;split<;>rename_i hi<;>rw[hi]at hw
    ·rw[oK,if_neg (by simpa using hw),h]
    ·exact h
 intro l s;exact key l s s rfl
theorem mT (its:List It)(k:Nat):∀(l:List Nat) (s:FS),(l.foldl (yt its) s).heap k=((l.filter (cX its k)).foldl (yt its) s).heap k:=by
 have key:∀(l:List Nat) (s s':FS),s.heap k=s'.heap k→(l.foldl (yt its) s).heap k=((l.filter (cX its k)).foldl (yt its) s').heap k:=by
  intro l;induction l with
  |nil=>intro s s' h;exact h
  |cons i l ih=>
   intro s s' h;rw[XA,Y3];by_cases hw:cX its k i=true
   ·rw[if_pos hw,XA];refine ih _ _ ?_;unfold yt;unfold cX at hw;split<;>rename_i hi<;>rw[hi]at hw
    ·rw[lZ,lZ,wX hw]
    ·cases hw
   ·rw[if_neg hw];refine ih _ _ ?_;unfold yt;unfold cX at hw;split<;>rename_i hi<;>rw[hi]at hw
    ·rw[lZ,wW (by simpa using hw),h]
    ·exact h
 intro l s;exact key l s s rfl
theorem oM (s:FS)(its:List It):∀i,i≤its.length→pT s (its.take i)=(WC i).foldl (yt its) s
 |0,_=>rfl
 |i+1,h=>by
  rw[YT,X9,←oM s its i (by omega)];have hi:its[i]? =some its[i]:=VY (by omega);simp only[XA,List.foldl_nil,yt,hi,pT];rw[XT (by omega),X9];rfl
theorem kL {n i:Nat}(hi:i≤n){p q:Nat→Bool}(h1:∀j,j < i→p j=q j)(h2:∀j,i≤j→j < n→p j=false):(WC n).filter p=(WC i).filter q:=by
 obtain⟨m,rfl⟩:∃m,n=i+m:=⟨n - i,by omega⟩;rw[List.range_add,YU];have e1:(WC i).filter p=(WC i).filter q:=YD fun j hj=>h1 j (Xk.1 hj);have e2:(List.map (fun x=>i+x) (WC m)).filter p=[]:=by
  rw[YW];intro j hj;obtain⟨x,hx,rfl⟩:=Wp.1 hj;have:=Xk.1 hx;rw[h2 _ (by omega) (by omega)];simp
 rw[e1,e2,WV]
def Bw (its:List It):List (List Nat × List Nat):=its.map fun it=>(it.res.eff.map (·.1),it.res.touch)
def l0 (ops:Array Oper):Bool:=(WC ops.size).all fun i=>((ops[i]?).map fun o=>o.after.toList.all fun e=>!Region.binds .any e||decide (e.on < i)).getD true
section
variable {X:Cfg}{ops:Array Oper}{s:FS}{its:List It}
structure Plan (X:Cfg)(ops:Array Oper)(s:FS)(its:List It):Prop where
 len:its.length=ops.size
 at_:∀(j:Nat) (it:It),its[j]? =some it→ops[j]? =some it.o∧GR X ops (pT s (its.take j)) it
 ind:∀(i j:Nat) (x y:It),i < j→its[i]? =some x→its[j]? =some y→((uH ops ops.size).getD j 0).testBit i=true∨sv ops x.o y.o (x.res.eff.map (·.1)) (y.res.eff.map (·.1)) x.res.touch y.res.touch=true
 sub:∀(j:Nat) (it:It),its[j]? =some it→∀kc∈it.res.eff,kc.1∈it.res.touch
 back:∀(i:Nat) (o:Oper),ops[i]? =some o→∀e∈o.after.toList,Region.binds .any e=true→e.on < i
theorem J6 (ht:im X ops s 0 its)(hi:lY ops (Bw its)=true)(hb:l0 ops=true):Plan X ops s its:=by
 obtain⟨h1,h2⟩:=ss its s 0 ht;simp only[Wn]at h1 h2;refine⟨h1,h2,fun i j x y hij hx hy=>?_,fun j it hj kc JV=>?_,fun i o ho e he R6=>?_⟩
 ·have Qf:j < ops.size:=by rw[←h1];exact(V3.1 hy).1
  unfold lY at hi;simp only[Wx,Xk]at hi;have:=hi j Qf i hij;rw[(h2 i x hx).1,(h2 j y hy).1]at this;simp only[Bw,Ww,V7,hx,hy,WQ,Xc,Bool.or_eq_true]at this;simpa[Ww]using this
 ·obtain⟨_,h3,h4,h5⟩:=h2 j it hj;cases hw:it.want with
  |true=>exact(h4 hw).2.1 kc JV
  |false=>rw[(h5 hw).1]at JV;simp[Bu]at JV
 ·unfold l0 at hb;simp only[Wx,Xk]at hb;have:=hb i (W5.1 ho).1;rw[ho]at this;simp only[WQ,Xc,Wx]at this;have:=this e he;simpa[R6]using this
def rG (listed:Array Bool):Nat→Bool:=fun j=>listed.getD j false
theorem ft {x y:Oper}{kx ky tx ty:List Nat}(h:sv ops x y kx ky tx ty=true):x.apart ops y=true∧(∀k∈kx,k∉ty)∧(∀k∈ky,k∉tx):=by
 simp only[sv,Wd,Wx,Bool.not_eq_true',List.contains_eq_mem,decide_eq_false_iff_not]at h;exact⟨h.1.1,h.1.2,h.2⟩
theorem qQ {L:Nat→Bool}(hc:lX ops L){i:Nat}{o:Oper}(ho:ops[i]? =some o)(hr:∀e∈o.after,Region.binds .any e=true→L e.on=true):lX ops (fun j=>L j||j==i):=by
 intro j o' ho' hj e he hb;simp only[Bool.or_eq_true,beq_iff_eq]at hj ⊢;rcases hj with hj|hj
 ·exact .inl (hc j o' ho' hj e he hb)
 ·subst hj;rw[ho]at ho';cases ho';exact .inl (hr e (by simpa using he) hb)
theorem oN {L:Nat→Bool}(hc:lX ops L){i j:Nat}{o:Oper}(ho:ops[i]? =some o)(hr:∀e∈o.after,Region.binds .any e=true→L e.on=true)
 (hij:j≠i) (hb:((uH ops ops.size).getD i 0).testBit j=true):L j=true:=by
 have:=go (qQ hc ho hr) ops.size i j hb (by simp);simpa[hij]using this
variable (hp:Plan X ops s its)
include hp
theorem Ew {L:Nat→Bool}(hc:lX ops L){i:Nat}{it:It}(hi:its[i]? =some it)(hL:L i=false)(hr:∀e∈it.o.after,Region.binds .any e=true→L e.on=true)(t:Nat)(ht:t∈it.o.looksAt ops):
 (j0 s its L).env t=(pT s (its.take i)).env t:=by
 have g7:i < its.length:=(V3.1 hi).1;have MU:=(hp.at_ i it hi).1;unfold j0;rw[oL its t ((WC its.length).filter L),oM s its i (by omega),oL its t (WC i),XN];rw[kL (i:=i) (q:=dv its t) (by omega)]
 ·intro j hj;by_cases hw:dv its t j=true
  ·have CS:L j=true:=by
    unfold dv at hw;split at hw
    ·rename_i x hx;rcases hp.ind j i x it hj hx hi with hb|hn
     ·exact oN hc MU hr (by omega) hb
     ·exact absurd ht ((Oper.apart_spec (ft hn).1).1 t (by simpa using hw))
    ·cases hw
   simp[hw,CS]
  ·simp at hw;simp[hw]
 ·intro j hj Qf;by_cases hw:dv its t j=true
  ·rcases Wv i j with hij|hij
   ·cases CS:L j with
    |false=>simp
    |true=>
     unfold dv at hw;split at hw
     ·rename_i x hx;rcases hp.ind i j it x hij hi hx with hb|hn
      ·rw[go hc ops.size j i hb CS]at hL;cases hL
      ·exact absurd ht ((Oper.apart_spec (ft hn).1).2.2 t (by simpa using hw))
     ·cases hw
   ·obtain rfl:j=i:=by omega
    simp[hL]
  ·simp at hw;simp[hw]
theorem By {L:Nat→Bool}(hc:lX ops L){i:Nat}{it:It}(hi:its[i]? =some it)(hL:L i=false)(hr:∀e∈it.o.after,Region.binds .any e=true→L e.on=true)(k:Nat)(ht:k∈it.res.touch):
 (j0 s its L).heap k=(pT s (its.take i)).heap k:=by
 have g7:i < its.length:=(V3.1 hi).1;have MU:=(hp.at_ i it hi).1;unfold j0;rw[mT its k ((WC its.length).filter L),oM s its i (by omega),mT its k (WC i),XN];rw[kL (i:=i) (q:=cX its k) (by omega)]
 ·intro j hj;by_cases hw:cX its k j=true
  ·have CS:L j=true:=by
    unfold cX at hw;split at hw
    ·rename_i x hx;rcases hp.ind j i x it hj hx hi with hb|hn
     ·exact oN hc MU hr (by omega) hb
     ·exact absurd ht ((ft hn).2.1 k (by simpa using hw))
    ·cases hw
   simp[hw,CS]
  ·simp at hw;simp[hw]
 ·intro j hj Qf;by_cases hw:cX its k j=true
  ·rcases Wv i j with hij|hij
   ·cases CS:L j with
    |false=>simp
    |true=>
     unfold cX at hw;split at hw
     ·rename_i x hx;rcases hp.ind i j it x hij hi hx with hb|hn
      ·rw[go hc ops.size j i hb CS]at hL;cases hL
      ·exact absurd ht ((ft hn).2.2 k (by simpa using hw))
     ·cases hw
   ·obtain rfl:j=i:=by omega
    simp[hL]
  ·simp at hw;simp[hw]
theorem GU {L:Nat→Bool}(hc:lX ops L){i:Nat}{it:It}(hi:its[i]? =some it)(hL:L i=false):
 j0 s its (fun j=>L j||j==i)=(j0 s its L).app it.o.dst it.res:=by
 have g7:i < its.length:=(V3.1 hi).1;have late:∀(j:Nat) (x:It),i < j→its[j]? =some x→L j=true→sv ops it.o x.o (it.res.eff.map (·.1)) (x.res.eff.map (·.1)) it.res.touch x.res.touch=true:=by
  intro j x hij hx CS;rcases hp.ind i j it x hij hi hx with hb|hn
  ·rw[go hc ops.size j i hb CS]at hL;cases hL
  ·exact hn
 have Jm:∀t,(j0 s its (fun j=>L j||j==i)).env t=((j0 s its L).app it.o.dst it.res).env t:=by
  intro t;rw[oK];unfold j0;rw[oL,XN];by_cases hw:it.o.dst=some t
  ·rw[if_pos hw];rw[kL (i:=i+1) (q:=fun j=>dv its t j&&(L j||j==i)) (by omega) (fun _ _=>rfl),YT,YU,X9]
   ·have:(fun j=>dv its t j&&(L j||j==i)) i=true:=by simp[dv,hi,hw]
    rw[Y3,if_pos this,List.filter_nil,XA,List.foldl_nil];simp only[yt,hi];rw[oK,if_pos hw]
   ·intro j hj Qf;cases CS:L j with
    |false=>
     have jo:(j==i)=false:=by rw[beq_eq_false_iff_ne];omega
     simp only[jo,CS,Bool.or_self,Bool.and_false]
    |true=>
     cases hx:its[j]? with
     |none=>simp[dv,hx]
     |some x=>
      have h2:=(Oper.apart_spec (ft (late j x (by omega) hx CS)).1).2.1 t hw;simp[dv,hx,h2]
  ·rw[if_neg hw,oL its t ((WC its.length).filter L),XN];rw[YD (p:=fun j=>dv its t j&&(L j||j==i)) (q:=fun j=>dv its t j&&L j)];intro j _;by_cases jo:j=i
   ·subst jo;simp[dv,hi,hw]
   ·have F8:(j==i)=false:=by rw[beq_eq_false_iff_ne];exact jo
    simp only[F8,Bool.or_false]
 have Qg:∀k,(j0 s its (fun j=>L j||j==i)).heap k=((j0 s its L).app it.o.dst it.res).heap k:=by
  intro k;rw[lZ];unfold j0;rw[mT,XN];by_cases hw:(it.res.eff.map (·.1)).contains k=true
  ·rw[kL (i:=i+1) (q:=fun j=>cX its k j&&(L j||j==i)) (by omega) (fun _ _=>rfl),YT,YU,X9]
   ·have:(fun j=>cX its k j&&(L j||j==i)) i=true:=by
     simp only[cX,hi,hw];simp
    rw[Y3,if_pos this,List.filter_nil,XA,List.foldl_nil];simp only[yt,hi];rw[lZ];exact wX hw
   ·intro j hj Qf;cases CS:L j with
    |false=>
     have jo:(j==i)=false:=by rw[beq_eq_false_iff_ne];omega
     simp only[jo,CS,Bool.or_self,Bool.and_false]
    |true=>
     cases hx:its[j]? with
     |none=>simp[cX,hx]
     |some x=>
      have h2:=(ft (late j x (by omega) hx CS)).2.1 k (by simpa using hw);have h3:(x.res.eff.map (·.1)).contains k=false:=by
       cases gI:(x.res.eff.map (·.1)).contains k with
       |false=>rfl
       |true=>
        obtain⟨kc,h4,h5⟩:=Wp.1 (by simpa using gI:k∈x.res.eff.map (·.1));exact absurd (h5 ▸ hp.sub j x hx kc h4) h2
      simp only[cX,hx,h3,YG]
  ·rw[wW (by simpa using hw),mT its k ((WC its.length).filter L),XN];rw[YD (p:=fun j=>cX its k j&&(L j||j==i)) (q:=fun j=>cX its k j&&L j)];intro j _;by_cases jo:j=i
   ·subst jo;have:cX its k j=false:=by simp only[cX,hi];simpa using hw
    simp[this]
   ·have F8:(j==i)=false:=by rw[beq_eq_false_iff_ne];exact jo
    simp only[F8,Bool.or_false]
 generalize e1:j0 s its (fun j=>L j||j==i)=x at*;generalize e2:(j0 s its L).app it.o.dst it.res=y at*;cases x;cases y;simp only[FS.mk.injEq];exact⟨funext Jm,funext Qg⟩
theorem Bz {listed:Array Bool}(hs:listed.size=ops.size)(hr:Region.ready .any ops listed=[]):∀j,j < ops.size→rG listed j=true:=by
 intro j;induction j using Nat.strongRecOn with
 |_ j ih=>
  intro hj;cases hl:rG listed j with
  |true=>rfl
  |false=>
   obtain⟨o,ho⟩:∃o,ops[j]? =some o:=⟨ops[j],Xj hj⟩;have:j∈Region.ready .any ops listed:=by
    rw[mem_ready];refine⟨?_,o,ho,fun e he hb=>?_⟩
    ·unfold rG at hl;rw[W3,Xj (by omega)]at hl ⊢;simpa using hl
    ·have hlt:=hp.back j o ho e (by simpa using he) hb;exact ih e.on hlt (by omega)
   rw[hr]at this;cases this
theorem GV {Q:Exit→Act→World→Prop}(hQ:∀a' w',il X (pT s its) a' w'→Q .normal a' w'):∀(fuel:Nat) (listed:Array Bool) (a:Act) (w:World),listed.size=ops.size→lX ops (rG listed)→
 il X (j0 s its (rG listed)) a w→((WC ops.size).filter fun j=>!rG listed j).length≤fuel→wpAny X.P .any ops Q fuel listed a w:=by
 have fin:∀(listed:Array Bool) (a:Act) (w:World),listed.size=ops.size→il X (j0 s its (rG listed)) a w→Region.ready .any ops listed=[]→Q .normal a w:=by
  intro listed a w hs hr he;have b7:=Bz hp hs he;have:j0 s its (rG listed)=pT s its:=by
   have h1:=oM s its its.length (Wa _);rw[V4]at h1;rw[h1];unfold j0;congr 1;rw[List.filter_eq_self];intro j hj;exact b7 j (by rw[←hp.len];exact Xk.1 hj)
  rw[this]at hr;exact hQ a w hr
 intro fuel;induction fuel with
 |zero=>
  intro listed a w hs hc hr hn;have b7:∀j,j < ops.size→rG listed j=true:=by
   intro j hj;have h0:=WA (Nat.le_zero.1 hn);rw[YW]at h0;have:=h0 j (Xk.2 hj);simpa using this
  have he:Region.ready .any ops listed=[]:=by
   rw[List.eq_nil_iff_forall_not_mem];intro j hj;rw[mem_ready]at hj;obtain⟨h1,o,ho,_⟩:=hj;have hlt:=(W5.1 ho).1;have:=b7 j hlt;unfold rG at this;rw[W3,Xj (by omega)]at this h1;simp at this h1;rw[this]at h1;cases h1
  exact⟨he,fin listed a w hs hr he⟩
 |succ fuel ih=>
  intro listed a w hs hc hr hn;refine⟨fin listed a w hs hr,fun i hi=>?_⟩;rw[mem_ready]at hi;obtain⟨h1,o,ho,b7⟩:=hi;have hlt:=(W5.1 ho).1;have hL:rG listed i=false:=by
   unfold rG;rw[W3,Xj (by omega)]at h1 ⊢;simpa using h1
  obtain⟨it,MT⟩:∃it,its[i]? =some it:=⟨its[i]'(by rw[hp.len];exact hlt),VY _⟩;obtain⟨MU,cr⟩:=hp.at_ i it MT;rw[ho]at MU;cases MU;have R7:rG (listed.setIfInBounds i true)=fun j=>rG listed j||j==i:=by
   funext j;unfold rG;by_cases jo:j=i
   ·subst jo;simp[W3,hs,hlt]
   ·rw[getD_set_ne false (fun e=>jo e.symm)];simp[jo]
  refine GT ho cr (Ew hp hc MT hL b7) (By hp hc MT hL b7) hr fun v w' hr'=>?_;refine ih _ _ _ (by simpa using hs) ?_ ?_ ?_
  ·rw[R7];exact qQ hc ho b7
  ·rw[R7,GU hp hc MT hL];exact hr'
  ·rw[R7];have R8:((WC ops.size).filter fun j=>!(rG listed j||j==i)).length < ((WC ops.size).filter fun j=>!rG listed j).length:=by
    have un:((WC ops.size).filter fun j=>!(rG listed j||j==i))=((WC ops.size).filter fun j=>!rG listed j).filter (fun j=>!(j==i)):=by
     rw[XN];exact YD fun j _=>by cases rG listed j<;>simp
    rw[un];refine List.length_filter_lt_length_iff_exists.2 ⟨i,?_,by simp⟩;rw[List.mem_filter];exact⟨Xk.2 hlt,by simp[hL]⟩
   show ((WC ops.size).filter fun j=>!(rG listed j||j==i)).length≤fuel;omega
end
theorem vC (n j:Nat):rG (XB n false) j=false:=by
 unfold rG;rw[W3,Array.getElem?_replicate];split<;>rfl
theorem yu {X:Cfg}{ops:Array Oper}{s:FS}{its:List It}{Q:Exit→Act→World→Prop}{a:Act}{w:World}(hm:X.P.follows .mixedOrders=true)(id:Nat)(draw:Bool)(ht:im X ops s 0 its)(hd:draw=true→lY ops (Bw its)=true∧l0 ops=true)
 (hr:il X s a w) (hQ:∀a' w',il X (pT s its) a' w'→Q .normal a' w'):(Code.region id ops draw).wp X.P Q a w:=by
 cases draw with
 |false=>
  refine wp_region ?_;have h1:=(ss its s 0 ht).1;have:=sr its s 0 a w ht hr hQ;rw[List.range_eq_range',←h1,Wn];exact this
 |true=>
  obtain⟨hi,hb⟩:=hd rfl;refine wp_region_any hm (GV (J6 ht hi hb) hQ _ _ _ _ (by simp) ?_ ?_ ?_)
  ·intro j o ho hj;rw[vC]at hj;cases hj
  ·have:j0 s its (rG (XB ops.size false))=s:=by
    unfold j0;have:(WC its.length).filter (rG (XB ops.size false))=[]:=by
     rw[YW];intro j _;simp[vC]
    rw[this];rfl
   rw[this];obtain⟨c,hc⟩:=hr;refine⟨c,hc.size,hc.defers,⟨hc.ext.os,hc.ext.tape,hc.ext.output,hc.ext.size,hc.ext.block⟩,hc.inv,hc.fresh,hc.mu,hc.new,hc.apart,fun t=>?_,fun k=>?_,hc.lent⟩
   ·have hk:Keep c.M w c.M {w with drawn:=w.drawn+1}:=⟨Wa _,fun _ _ _=>rfl,fun _ _ h=>h⟩;exact(hc.env t).keep c.le_refl hk
   ·have hk:Keep c.M w c.M {w with drawn:=w.drawn+1}:=⟨Wa _,fun _ _ _=>rfl,fun _ _ h=>h⟩;cases bn:s.heap k with
    |none=>have:=hc.chunk k;rw[bn]at this;cases this with|none h1 h2=>exact .none h1 h2
    |gone=>exact .gone
    |box T cells=>have:=hc.chunk k;rw[bn]at this;cases this with|box _ _ b vs hb hh hr h1=>exact .box T cells b vs hb hh (hr.keep c.le_refl hk) h1
    |row E sz g rows=>have:=hc.chunk k;rw[bn]at this;cases this with|row _ _ _ _ v xs hv bf hr ck h1 hg=>exact .row E sz g rows v xs hv (bf.same fun _ _=>rfl) (hr.keep c.le_refl hk) ck h1 hg
    |mp nB sB ents=>have:=hc.chunk k;rw[bn]at this;cases this with|mp _ _ _ b hb hh hn=>exact .mp nB sB ents b hb hh hn
    |it nB sB ents seen=>have:=hc.chunk k;rw[bn]at this;cases this with|it _ _ _ _ b bm hb hh hM hm=>exact .it nB sB ents seen b bm hb hh hM hm
  ·refine W6 (List.length_filter_le _ _) ?_;simp
theorem ChunkOK.keep {k:Nat}{c c':Cx}{w w':World}{ch:Chunk}(h:ChunkOK c w k ch)(hle:c.le c')(hk:Keep c.M w c'.M w')(hb:∀b,c.block k ch=some b→w'.heap[b]? =w.heap[b]?)
 (oz:c'.bl k=c.bl k) (dy:c'.ov k=c.ov k):ChunkOK c' w' k ch:=by
 cases h with
 |none h1 h2=>exact .none (by rw[oz];exact h1) (fun g=>by rw[dy];exact h2 g)
 |gone=>exact .gone
 |box T cells b vs cR hh hr h1=>exact .box T cells b vs (by rw[oz];exact cR) (by rw[hb b cR];exact hh) (hr.keep hle hk) h1
 |row E sz g rows v xs hv bf hr ck h1 hg=>
  exact .row E sz g rows v xs (by rw[dy];exact hv) (bf.same fun b e=>hb b (by simp[Cx.block,hv,e])) (hr.keep hle hk) ck h1 (by rw[dy];exact hg)
 |mp nB sB ents b cR hh hn=>exact .mp nB sB ents b (by rw[oz];exact cR) (by rw[hb b cR];exact hh) hn
 |it nB sB ents seen b bm cR hh hM hm=>
  have hlt:bm < w.heap.size:=(W5.1 hm).1;exact .it nB sB ents seen b bm (by rw[oz];exact cR) (by rw[hb b cR];exact hh) (fun h=>hM (hk.mu _ hlt h)) (by rw[hk.block _ hlt hM];exact hm)
theorem RealC.lt {X:Cfg}{s:FS}{a:Act}{w:World}{c:Cx}(h:RealC X s a w c){b:Nat}(hb:c.M b):b < w.heap.size:=by
 rcases(h.mu b).1 hb with h0|⟨k,hk⟩
 ·exact W4 (h.fresh b h0).1 h.ext.size
 ·exact(h.new k b hk).2
theorem RealC.grow {X:Cfg}{s:FS}{a:Act}{w w':World}{c:Cx}(h:RealC X s a w c)(hx:cW w w'):RealC X s a w' c:=by
 have hk:Keep c.M w c.M w':=Keep.ext hx fun b hb=>h.lt hb;exact⟨h.size,h.defers,h.ext.trans (.of_ext hx),h.inv,h.fresh,h.mu,fun k b hb=>⟨(h.new k b hb).1,W4 (h.new k b hb).2 hx.size⟩,h.apart,fun t=>(h.env t).keep c.le_refl hk,
  fun k=>(h.chunk k).keep c.le_refl hk (fun b hb=>hx.block b (h.new k b hb).2) rfl rfl,h.lent⟩
theorem gp (w:World)(o:Obj):cW w (w.alloc o):=(Below.refl _ _).alloc (Wa _) o
theorem gL (w:World)(o:Obj):(w.alloc o).heap[w.heap.size]? =some o:=by
 show (w.heap.push o)[w.heap.size]? =some o;simp
theorem size_alloc (w:World)(o:Obj):(w.alloc o).heap.size=w.heap.size+1:=by
 show (w.heap.push o).size=_;simp
theorem oO (k:Nat)(c:Chunk)(h:Nat→Chunk):bS [(k,c)] h=fun k'=>if k'=k then c else h k':=rfl
theorem RealC.new_chunk {X:Cfg}{s:FS}{a:Act}{w w':World}{c c':Cx}(h:RealC X s a w c){k:Nat}{ch:Chunk}(hk:s.heap k= .none)(rz:¬k < X.m)(hx:cW w w')(hle:c.le c')(oz:∀k',k'≠k→c'.bl k'=c.bl k')(dy:∀k',k'≠k→c'.ov k'=c.ov k')
 (hM:∀b,c'.M b↔c.M b∨c'.block k ch=some b) (jl:∀b,c'.block k ch=some b→w.heap.size≤b∧b < w'.heap.size)
 (Gp:Keep c.M w c'.M w'→ChunkOK c' w' k ch):RealC X {s with heap:=bS [(k,ch)] s.heap} a w' c':=by
 have lM:Keep c.M w c'.M w':=⟨hx.size,fun b hb _=>hx.block b hb,fun b hb hm=>by
  rcases(hM b).1 hm with h1|h1
  ·exact h1
  ·have:=(jl b h1).1;omega⟩
 have ct:∀k' ch',k'≠k→c'.block k' ch'=c.block k' ch':=by
  intro k' ch' bq;cases ch'<;>simp[Cx.block,oz k' bq,dy k' bq]
 have oE:∀k',bS [(k,ch)] s.heap k'=if k'=k then ch else s.heap k':=fun _=>rfl;refine⟨h.size,h.defers,h.ext.trans (.of_ext hx),h.inv,h.fresh,fun b=>?_,fun k' b hb=>?_,fun k' k'' b hb hb'=>?_,fun t=>(h.env t).keep hle lM,fun k'=>?_,fun k' hk'=>⟨(oz k' (fun e=>rz (e ▸ hk'))).trans (h.lent k' hk').1,fun g v hv=>hle.ov _ _ _ ((h.lent k' hk').2 g v hv)⟩⟩
 ·rw[hM b,h.mu b];constructor
  ·rintro ((h0|⟨k',h1⟩)|h1)
   ·exact .inl h0
   ·refine .inr ⟨k',?_⟩;have bq:k'≠k:=fun e=>by subst e;rw[hk]at h1;simp[Cx.block]at h1
    show c'.block k' (bS [(k,ch)] s.heap k')=_;rw[oE,if_neg bq,ct k' _ bq];exact h1
   ·refine .inr ⟨k,?_⟩;show c'.block k (bS [(k,ch)] s.heap k)=_;rw[oE,if_pos rfl];exact h1
  ·rintro (h0|⟨k',h1⟩)
   ·exact .inl (.inl h0)
   ·simp only[oE]at h1;by_cases bq:k'=k
    ·subst bq;rw[if_pos rfl]at h1;exact .inr h1
    ·rw[if_neg bq,ct k' _ bq]at h1;exact .inl (.inr ⟨k',h1⟩)
 ·simp only[oE]at hb;by_cases bq:k'=k
  ·subst bq;rw[if_pos rfl]at hb;exact⟨.inr (W6 h.ext.size (jl b hb).1),(jl b hb).2⟩
  ·rw[if_neg bq,ct k' _ bq]at hb;exact⟨(h.new k' b hb).1,W4 (h.new k' b hb).2 hx.size⟩
 ·simp only[oE]at hb hb';by_cases h1:k'=k
  ·by_cases h2:k''=k
   ·omega
   ·subst h1;rw[if_pos rfl]at hb;rw[if_neg h2,ct k'' _ h2]at hb';have:=(jl b hb).1;have:=(h.new k'' b hb').2;omega
  ·by_cases h2:k''=k
   ·subst h2;rw[if_pos rfl]at hb';rw[if_neg h1,ct k' _ h1]at hb;have:=(jl b hb').1;have:=(h.new k' b hb).2;omega
   ·rw[if_neg h1,ct k' _ h1]at hb;rw[if_neg h2,ct k'' _ h2]at hb';exact h.apart k' k'' b hb hb'
 ·simp only[oE];by_cases bq:k'=k
  ·subst bq;rw[if_pos rfl];exact Gp lM
  ·rw[if_neg bq];exact(h.chunk k').keep hle lM (fun b hb=>hx.block b (h.new k' b hb).2) (oz k' bq) (dy k' bq)
theorem RealC.new_box {X:Cfg}{s:FS}{a:Act}{w:World}{c:Cx}(h:RealC X s a w c){k:Nat}(hk:s.heap k= .none)(rz:¬k < X.m)(T:Nat)(cells:List PV)(vs:List Value)(hr:aZ c w cells vs)(h1:∀d∈cells,d.one=true):
 ∃c',RealC X {s with heap:=bS [(k,.box T cells)] s.heap} a (w.alloc (.cells vs.toArray T)) c'∧RepP c' (w.alloc (.cells vs.toArray T)) (.ptr k 0) (.pointer (some ⟨w.heap.size,0,none⟩)):=by
 have bn:=h.chunk k;rw[hk]at bn;cases bn with
 |none Eg Qh=>
  have hx:=gp w (.cells vs.toArray T);have cR:(fun k'=>if k'=k then some w.heap.size else c.bl k') k=some w.heap.size:=if_pos rfl;refine⟨{M:=fun b=>c.M b∨b=w.heap.size,bl:=fun k'=>if k'=k then some w.heap.size else c.bl k',ov:=c.ov},?_,.ptr k 0 _ cR⟩;have hle:c.le {M:=fun b=>c.M b∨b=w.heap.size,bl:=fun k'=>if k'=k then some w.heap.size else c.bl k',ov:=c.ov}:=
   ⟨fun k' b hb=>by
    have:k'≠k:=fun e=>by subst e;rw[Eg]at hb;cases hb
    show (if k'=k then some w.heap.size else c.bl k')=some b;rw[if_neg this];exact hb,fun _ _ _ h=>h⟩
  refine h.new_chunk hk rz hx hle (fun k' bq=>if_neg bq) (fun _ _=>rfl) (fun b=>?_) (fun b hb=>?_) (fun lM=>?_)
  ·simp only[Cx.block,if_true,WD.injEq];exact⟨fun h=>h.imp id Eq.symm,fun h=>h.imp id Eq.symm⟩
  ·simp only[Cx.block,if_true,WD.injEq]at hb;rw[size_alloc];omega
  ·exact .box T cells w.heap.size vs cR (gL w _) (hr.keep hle lM) h1
theorem RealC.new_row {X:Cfg}{s:FS}{a:Act}{w w':World}{c:Cx}(h:RealC X s a w c){k:Nat}(hk:s.heap k= .none)(rz:¬k < X.m)(E sz:Nat)(rows:List (List PV))(v:Value)(xs:List Value)(hx:cW w w')
 (bf:OwnV w' E sz v rows.length xs) (gE:∀b,cm v=some b→w.heap.size≤b) (hr:aZ c w rows.flatten xs) (ck:∀r∈rows,r.length=sz) (h1:∀r∈rows,∀d∈r,d.one=true):
 ∃c',RealC X {s with heap:=bS [(k,.row E sz 0 rows)] s.heap} a w' c'∧RepP c' w' (.own k 0) v:=by
 have bn:=h.chunk k;rw[hk]at bn;have pF:v.oneCell'=true:=bf.one;cases bn with
 |none Eg Qh=>
  have cr:(fun k' g=>if k'=k∧g=0 then some v else c.ov k' g) k 0=some v:=if_pos ⟨rfl,rfl⟩;have hle:c.le {M:=fun b=>c.M b∨cm v=some b,bl:=c.bl,ov:=fun k' g=>if k'=k∧g=0 then some v else c.ov k' g}:=
   ⟨fun _ _ h=>h,fun k' g u hu=>by
    have:k'≠k:=fun e=>by subst e;rw[Qh]at hu;cases hu
    show (if k'=k∧g=0 then some v else c.ov k' g)=some u;rw[if_neg (fun e=>this e.1)];exact hu⟩
  have ct:∀b,(Cx.block {M:=fun b=>c.M b∨cm v=some b,bl:=c.bl,ov:=fun k' g=>if k'=k∧g=0 then some v else c.ov k' g} k (.row E sz 0 rows)=some b)↔cm v=some b:=by
   intro b;simp[Cx.block]
  refine⟨{M:=fun b=>c.M b∨cm v=some b,bl:=c.bl,ov:=fun k' g=>if k'=k∧g=0 then some v else c.ov k' g},?_,.own k 0 v cr pF⟩;refine h.new_chunk hk rz hx hle (fun _ _=>rfl) (fun k' bq=>?_) (fun b=>?_) (fun b hb=>?_) (fun lM=>?_)
  ·funext g;exact if_neg (fun e=>bq e.1)
  ·rw[ct b]
  ·rw[ct b]at hb;exact⟨gE b hb,bf.lt hb⟩
  ·refine .row E sz 0 rows v xs cr bf (hr.keep hle lM) ck h1 (fun g' hg=>?_);show (if k=k∧g'=0 then some v else c.ov k g')=none;rw[if_neg (by omega)];exact Qh g'
theorem RealC.turn {X:Cfg}{s:FS}{a:Act}{w w':World}{c c':Cx}(h:RealC X s a w c){k:Nat}{ch:Chunk}(hle:c.le c')(Qi:c'.bl k=c.bl k)(oz:∀k',k'≠k→c'.bl k'=c.bl k')(dy:∀k',k'≠k→c'.ov k'=c.ov k')
 (Ux:w'.os=w.os) (ht:w'.tape=w.tape) (ho:w'.output=w.output) (hs:w.heap.size≤w'.heap.size) (CT:∀b,b < w.heap.size→c.block k (s.heap k)≠some b→w'.heap[b]? =w.heap[b]?)
 (hM:∀b,c'.M b↔(c.M b∧c.block k (s.heap k)≠some b)∨c'.block k ch=some b)
 (jl:∀b,c'.block k ch=some b→(c.block k (s.heap k)=some b∨w.heap.size≤b)∧b < w'.heap.size)
 (Gp:Keep c.M w c'.M w'→ChunkOK c' w' k ch):RealC X {s with heap:=bS [(k,ch)] s.heap} a w' c':=by
 have own:∀b,c.block k (s.heap k)=some b→c.M b:=fun b hb=>(h.mu b).2 (.inr ⟨k,hb⟩);have lM:Keep c.M w c'.M w':=⟨hs,fun b hb hm=>CT b hb (fun e=>hm (own b e)),fun b hb hm=>by
  rcases(hM b).1 hm with h1|h1
  ·exact h1.1
  ·rcases(jl b h1).1 with h2|h2
   ·exact own b h2
   ·omega⟩
 have ct:∀k' ch',k'≠k→c'.block k' ch'=c.block k' ch':=by
  intro k' ch' bq;cases ch'<;>simp[Cx.block,oz k' bq,dy k' bq]
 have oE:∀k',bS [(k,ch)] s.heap k'=if k'=k then ch else s.heap k':=fun _=>rfl;have oldNe:∀k' b,k'≠k→c.block k' (s.heap k')=some b→c.block k (s.heap k)≠some b:=fun k' b bq hb e=>bq (h.apart k' k b hb e);refine⟨h.size,h.defers,⟨Ux.trans h.ext.os,ht.trans h.ext.tape,ho.trans h.ext.output,W6 h.ext.size hs,fun b hb yd=>?_⟩,h.inv,h.fresh,fun b=>?_,fun k' b hb=>?_,fun k' k'' b hb hb'=>?_,fun t=>(h.env t).keep hle lM,fun k'=>?_,fun k' hk'=>⟨?_,fun g v hv=>hle.ov _ _ _ ((h.lent k' hk').2 g v hv)⟩⟩
 ·refine(CT b (W4 hb h.ext.size) (fun e=>?_)).trans (h.ext.block b hb yd);rcases(h.new k b e).1 with h1|h1
  ·exact yd h1
  ·omega
 ·rw[hM b];constructor
  ·rintro (⟨h0,bq⟩|h1)
   ·rcases(h.mu b).1 h0 with h0|⟨k',h1⟩
    ·exact .inl h0
    ·refine .inr ⟨k',?_⟩;have fj:k'≠k:=fun e=>by subst e;exact bq h1
     show c'.block k' (bS [(k,ch)] s.heap k')=_;rw[oE,if_neg fj,ct k' _ fj];exact h1
   ·refine .inr ⟨k,?_⟩;show c'.block k (bS [(k,ch)] s.heap k)=_;rw[oE,if_pos rfl];exact h1
  ·rintro (h0|⟨k',h1⟩)
   ·refine .inl ⟨(h.mu b).2 (.inl h0),fun e=>?_⟩;rcases(h.new k b e).1 with h1|h1
    ·exact(h.fresh b h0).2 h1
    ·have:=(h.fresh b h0).1;omega
   ·simp only[oE]at h1;by_cases bq:k'=k
    ·subst bq;rw[if_pos rfl]at h1;exact .inr h1
    ·rw[if_neg bq,ct k' _ bq]at h1;exact .inl ⟨(h.mu b).2 (.inr ⟨k',h1⟩),oldNe k' b bq h1⟩
 ·simp only[oE]at hb;by_cases bq:k'=k
  ·subst bq;rw[if_pos rfl]at hb;refine⟨?_,(jl b hb).2⟩;rcases(jl b hb).1 with h2|h2
   ·exact(h.new _ b h2).1
   ·exact .inr (W6 h.ext.size h2)
  ·rw[if_neg bq,ct k' _ bq]at hb;exact⟨(h.new k' b hb).1,W4 (h.new k' b hb).2 hs⟩
 ·simp only[oE]at hb hb';by_cases h1:k'=k
  ·by_cases h2:k''=k
   ·omega
   ·subst h1;rw[if_pos rfl]at hb;rw[if_neg h2,ct k'' _ h2]at hb';rcases(jl b hb).1 with h3|h3
    ·exact absurd h3 (oldNe k'' b h2 hb')
    ·have:=(h.new k'' b hb').2;omega
  ·by_cases h2:k''=k
   ·subst h2;rw[if_pos rfl]at hb';rw[if_neg h1,ct k' _ h1]at hb;rcases(jl b hb').1 with h3|h3
    ·exact absurd h3 (oldNe k' b h1 hb)
    ·have:=(h.new k' b hb).2;omega
   ·rw[if_neg h1,ct k' _ h1]at hb;rw[if_neg h2,ct k'' _ h2]at hb';exact h.apart k' k'' b hb hb'
 ·simp only[oE];by_cases bq:k'=k
  ·subst bq;rw[if_pos rfl];exact Gp lM
  ·rw[if_neg bq];exact(h.chunk k').keep hle lM (fun b hb=>CT b (h.new k' b hb).2 (oldNe k' b bq hb)) (oz k' bq) (dy k' bq)
 ·by_cases bq:k'=k
  ·subst bq;exact Qi.trans (h.lent k' hk').1
  ·exact(oz k' bq).trans (h.lent k' hk').1
theorem RealC.set_box {X:Cfg}{s:FS}{a:Act}{w:World}{c:Cx}(h:RealC X s a w c){k T b:Nat}{cells cells':List PV}{vs vs':List Value}(hk:s.heap k= .box T cells)(hb:c.bl k=some b)(hh:w.heap[b]? =some (.cells vs.toArray T (0,0)))
 (hr:aZ c w cells' vs') (h1:∀d∈cells',d.one=true):RealC X {s with heap:=bS [(k,.box T cells')] s.heap} a (w.setRow b vs'.toArray) c:=by
 have ck:(w.setRow b vs'.toArray).heap.size=w.heap.size:=by simp[Yf]
 have bq:∀b',b'≠b→(w.setRow b vs'.toArray).heap[b']? =w.heap[b']? :=by
  intro b' hb';simp only[Yf,Xq];rw[if_neg (fun e=>hb' e.symm)]
 have ct:c.block k (s.heap k)=some b:=by rw[hk];exact hb
 refine h.turn c.le_refl rfl (fun _ _=>rfl) (fun _ _=>rfl) rfl rfl rfl (by omega) (fun b' _ hb'=>bq b' (fun e=>hb' (by rw[e];exact ct))) (fun b'=>?_) (fun b' hb'=>?_) (fun lM=>?_)
 ·show c.M b'↔(c.M b'∧c.block k (s.heap k)≠some b')∨c.bl k=some b';rw[ct,hb];constructor
  ·intro hm;by_cases e:b=b'
   ·exact .inr (by rw[e])
   ·exact .inl ⟨hm,fun h=>e (WD.inj h)⟩
  ·rintro (⟨hm,_⟩|e)
   ·exact hm
   ·exact(h.mu b').2 (.inr ⟨k,by rw[ct];exact e⟩)
 ·have e:c.bl k=some b':=hb';refine⟨.inl (by rw[ct,←hb];exact e),?_⟩;rw[ck];exact(h.new k b' (by rw[ct,←hb];exact e)).2
 ·exact .box T cells' b vs' hb (setRow_heap w b _ _ T _ hh) (hr.keep c.le_refl lM) h1
structure OneB (w w':World)(r:Option Nat):Prop where
 os:w'.os=w.os
 tape:w'.tape=w.tape
 output:w'.output=w.output
 size:w.heap.size≤w'.heap.size
 block:∀b,b < w.heap.size→r≠some b→w'.heap[b]? =w.heap[b]?
theorem RealC.set_row {X:Cfg}{s:FS}{a:Act}{w w':World}{c:Cx}(h:RealC X s a w c){k E sz g:Nat}{rows rows':List (List PV)}{v v':Value}{xs':List Value}(hk:s.heap k= .row E sz g rows)(hv:c.ov k g=some v)
 (hg:OneB w w' (cm v)) (bf:OwnV w' E sz v' rows'.length xs') (gE:cm v'=cm v∨∀b,cm v'=some b→w.heap.size≤b) (hr:aZ c w rows'.flatten xs') (ck:∀r∈rows',r.length=sz)
 (h1:∀r∈rows',∀d∈r,d.one=true):
 ∃c',RealC X {s with heap:=bS [(k,.row E sz (g+1) rows')] s.heap} a w' c'∧RepP c' w' (.own k (g+1)) v':=by
 have bn:=h.chunk k;rw[hk]at bn;have pF:v'.oneCell'=true:=bf.one;cases bn with
 |row _ _ _ _ u xs hu Qj Uy R9 TD JW=>
  rw[hv]at hu;cases hu;have ct:c.block k (s.heap k)=cm v:=by rw[hk];simp[Cx.block,hv]
  have cr:(fun k' g'=>if k'=k∧g'=g+1 then some v' else c.ov k' g') k (g+1)=some v':=if_pos ⟨rfl,rfl⟩;have hle:c.le {M:=fun b=>(c.M b∧cm v≠some b)∨cm v'=some b,bl:=c.bl,ov:=fun k' g'=>if k'=k∧g'=g+1 then some v' else c.ov k' g'}:=
   ⟨fun _ _ h=>h,fun k' g' u hu=>by
    have:¬(k'=k∧g'=g+1):=by
     rintro⟨rfl,rfl⟩;rw[JW (g+1) (by omega)]at hu;cases hu
    show (if k'=k∧g'=g+1 then some v' else c.ov k' g')=some u;rw[if_neg this];exact hu⟩
  have AZ:∀b,(Cx.block {M:=fun b=>(c.M b∧cm v≠some b)∨cm v'=some b,bl:=c.bl,ov:=fun k' g'=>if k'=k∧g'=g+1 then some v' else c.ov k' g'} k (.row E sz (g+1) rows')=some b)↔cm v'=some b:=by
   intro b;simp[Cx.block]
  refine⟨{M:=fun b=>(c.M b∧cm v≠some b)∨cm v'=some b,bl:=c.bl,ov:=fun k' g'=>if k'=k∧g'=g+1 then some v' else c.ov k' g'},?_,.own k (g+1) v' cr pF⟩;refine h.turn hle rfl (fun _ _=>rfl) (fun k' bq=>?_) hg.os hg.tape hg.output hg.size (fun b hb bq=>hg.block b hb (fun e=>bq (by rw[ct];exact e))) (fun b=>?_) (fun b hb=>?_) (fun lM=>?_)
  ·funext g';exact if_neg (fun e=>bq e.1)
  ·rw[AZ,ct]
  ·rw[AZ]at hb;refine⟨?_,bf.lt hb⟩;rw[ct];rcases gE with e|e
   ·exact .inl (e ▸ hb)
   ·exact .inr (e b hb)
  ·refine .row E sz (g+1) rows' v' xs' cr bf (hr.keep hle lM) ck h1 (fun g' hg'=>?_);show (if k=k∧g'=g+1 then some v' else c.ov k g')=none;rw[if_neg (by omega)];exact JW g' (by omega)
theorem RealC.put_row {X:Cfg}{s:FS}{a:Act}{w w':World}{c:Cx}(h:RealC X s a w c){k E sz g:Nat}{rows rows':List (List PV)}{v:Value}{xs':List Value}(hk:s.heap k= .row E sz g rows)(hv:c.ov k g=some v)
 (hg:OneB w w' (cm v)) (bf:OwnV w' E sz v rows'.length xs') (hr:aZ c w rows'.flatten xs') (ck:∀r∈rows',r.length=sz) (h1:∀r∈rows',∀d∈r,d.one=true):
 RealC X {s with heap:=bS [(k,.row E sz g rows')] s.heap} a w' c:=by
 have bn:=h.chunk k;rw[hk]at bn;cases bn with
 |row _ _ _ _ u xs hu Qj Uy R9 TD JW=>
  rw[hv]at hu;cases hu;have ct:c.block k (s.heap k)=cm v:=by rw[hk];simp[Cx.block,hv]
  have AZ:c.block k (.row E sz g rows')=cm v:=by simp[Cx.block,hv]
  refine h.turn c.le_refl rfl (fun _ _=>rfl) (fun k' bq=>rfl) hg.os hg.tape hg.output hg.size (fun b hb bq=>hg.block b hb (fun e=>bq (by rw[ct];exact e))) (fun b=>?_) (fun b hb=>?_) (fun lM=>?_)
  ·rw[AZ,ct];constructor
   ·intro hm;by_cases e:cm v=some b
    ·exact .inr e
    ·exact .inl ⟨hm,e⟩
   ·rintro (⟨hm,_⟩|e)
    ·exact hm
    ·exact(h.mu b).2 (.inr ⟨k,by rw[ct];exact e⟩)
  ·rw[AZ]at hb;exact⟨.inl (by rw[ct];exact hb),bf.lt hb⟩
  ·exact .row E sz g rows' v xs' hv bf (hr.keep c.le_refl lM) ck h1 JW
structure TI where
 agg:Bool
 size:Nat
 bytes:Nat
 zero:List Value
 fields:List (Nat × Nat)
 elem:Option Nat
 int:Option IntKind
 kind:Nat
 mp:Option (Nat × Bool)
 arr:Option (Nat × Nat):=none
def j1 (P:Program)(fs:List Field):Option (List (Nat × Nat)):=fs.mapM fun f=>(P.info? f.type).map fun i=>(f.offset,i.size)
def oP (P:Program):TypeDesc→List (Nat × Nat)
 | .struct fs=>(j1 P fs.toList).getD []
 |_=>[]
def J7:TypeDesc→Bool
 | .struct _=>true
 | .array _ _=>true
 |_=>false
def eu:TypeDesc→Option Nat
 | .slice e=>some e
 |_=>none
def GW:TypeDesc→Option (Nat × Nat)
 | .array n e=>some (n,e)
 |_=>none
def J8:TypeDesc→Option IntKind
 | .int k=>some k
 |_=>none
def ni:TypeDesc→Nat
 | .bool=>1
 | .string=>2
 | .pointer _=>3
 | .map _ _=>4
 | .interface _=>5
 |_=>0
def Tt (P:Program):TypeDesc→Option (Nat × Bool)
 | .map k e=>match P.underlying k,P.info? k,P.underlying e with
  |some (.int .i64),_,some (.int .i64)=>some (1,false)
  |some (.struct _),some i,some (.int .i64)=>some (i.size,true)
  |_,_,_=>none
 |_=>none
def aI (P:Program)(t:Nat):Option TI:=
 match P.info? t,P.underlying t with
 |some i,some d=>
  match i.zero with
  |some z=>
   if z.cells.all (·.oneCell')&&(z.cells.size==i.size)then
    some {agg:=J7 d,size:=i.size,bytes:=i.bytes,zero:=z.cells.toList,fields:=oP P d,elem:=eu d,int:=J8 d,kind:=ni d,mp:=Tt P d,arr:=GW d}
   else none
  |none=>none
 |_,_=>none
structure TCk (P:Program)(t:Nat)(ti:TI)(i:TypeInfo)(d:TypeDesc)(z:Value):Prop where
 info:P.info? t=some i
 und:P.underlying t=some d
 zero:i.zero=some z
 zcells:z.cells.toList=ti.zero
 one:∀x∈ti.zero,x.oneCell'=true
 zsize:ti.zero.length=ti.size
 size:i.size=ti.size
 bytes:i.bytes=ti.bytes
 agg:J7 d=ti.agg
 elem:eu d=ti.elem
 int:J8 d=ti.int
 kind:ni d=ti.kind
 mp:Tt P d=ti.mp
 arr:GW d=ti.arr
 fields:oP P d=ti.fields
theorem fk {P:Program}{t:Nat}{ti:TI}(h:aI P t=some ti):∃i d z,TCk P t ti i d z:=by
 unfold aI at h;split at h
 ·rename_i i d hi hd;split at h
  ·rename_i z hz;split at h
   ·rename_i hc;simp only[Wd,beq_iff_eq]at hc;cases h;refine⟨i,d,z,hi,hd,hz,rfl,fun x hx=>?_,?_,rfl,rfl,rfl,rfl,rfl,rfl,rfl,rfl,rfl⟩
    ·exact(Array.all_eq_true_iff_forall_mem.1 hc.1) x (by simpa using hx)
    ·simpa using hc.2
   ·cases h
  ·cases h
 ·cases h
theorem vD {P:Program}{off sz:Nat}:∀{l:List Field}{pl:List (Nat × Nat)},j1 P l=some pl→∀{f:Nat},pl[f]? =some (off,sz)→∃(g:Field) (j:TypeInfo),l[f]? =some g∧P.info? g.type=some j∧g.offset=off∧j.size=sz
 |[],pl,h,f,hf=>by simp[j1]at h;subst h;simp at hf
 |g::l,pl,h,f,hf=>by
  simp only[j1,List.mapM_cons,Option.bind_eq_bind,Option.pure_def]at h;cases hi:P.info? g.type with
  |none=>simp[hi]at h
  |some i=>
   cases hr:l.mapM (fun f=>(P.info? f.type).map fun i=>(f.offset,i.size))with
   |none=>simp[hi,hr]at h
   |some rest=>
    simp[hi,hr]at h;subst h;cases f with
    |zero=>simp at hf;exact⟨g,i,rfl,hi,hf.1,hf.2⟩
    |succ f=>simpa using vD (l:=l) hr (f:=f) (by simpa using hf)
theorem TCk.field {P:Program}{t:Nat}{ti:TI}{i:TypeInfo}{d:TypeDesc}{z:Value}(h:TCk P t ti i d z){f off sz:Nat}(hf:ti.fields[f]? =some (off,sz)):
 ∃(fs:Array Field) (g:Field) (j:TypeInfo),d= .struct fs∧j1 P fs.toList=some ti.fields∧fs[f]? =some g∧P.info? g.type=some j∧g.offset=off∧j.size=sz:=by
 have iN:=h.fields;cases d with
 |struct fs=>
  simp only[oP]at iN;cases hm:j1 P fs.toList with
  |none=>rw[hm]at iN;simp at iN;rw[iN]at hf;simp at hf
  |some pl=>
   rw[hm]at iN;simp at iN;subst iN;obtain⟨g,j,q1,q2⟩:=vD hm hf;exact⟨fs,g,j,rfl,hm,by simpa using q1,q2⟩
 |_=>simp[oP]at iN;rw[iN]at hf;simp at hf
def ev (s:FS):Operand→PV
 | .tmp t=>s.env t
 | .const v=> .d (.v v)
 | .func f=> .d (.clo f [])
 | .global _=> .any
theorem bo {X:Cfg}{s:FS}{a:Act}{w:World}{c:Cx}(h:RealC X s a w c)(x:Operand):RepP c w (ev s x) (a.eval x):=by
 cases x with
 |tmp t=>exact h.env t
 |const v=>exact .d _ _ (.v v)
 |func f=>exact .d _ _ (.clo f [] [] rfl (fun j d x h=>by simp at h))
 |«global» g=>exact .any _
theorem wY {ops:Array Oper}{o:Oper}{s s':FS}(he:∀t∈o.looksAt ops,s'.env t=s.env t)(x:Operand)(hx:x∈o.op.operands):ev s' x=ev s x:=by
 cases x with
 |tmp t=>
  refine he t ?_;unfold Oper.looksAt;refine YH _ ?_;rw[List.mem_filterMap];exact⟨.tmp t,by simpa using hx,rfl⟩
 |_=>rfl
theorem cT {X:Cfg}{ops:Array Oper}{s:FS}{o:Oper}{r:Res}(hd:∀d,o.dst=some d→d < X.n)(ht:∀kc∈r.eff,kc.1∈r.touch)
 (h:∀s':FS,(∀x∈o.op.operands,ev s' x=ev s x)→(∀k∈r.touch,s'.heap k=s.heap k)→∀a w c,RealC X s' a w c→
  ∃n v w',(execOp a.eval o).run X.P w= .ok n w'∧(n= .value v∨(n= .skip∧v=undef))∧∃c',RealC X {s' with heap:=bS r.eff s'.heap} a w' c'∧RepP c' w' r.pv v):bj X ops s o r:=by
 refine⟨hd,ht,fun s' he hk a w hr K Q hK=>?_⟩;obtain⟨c,hc⟩:=hr;obtain⟨n,v,w',bG,hn,c',hc',hp⟩:=h s' (fun x hx=>wY he x hx) hk a w c hc;have:=hK v w' ⟨c',hc'.put hp hd⟩;unfold Oper.wp;rw[bG];rcases hn with rfl|⟨rfl,rfl⟩
 ·exact this
 ·exact this
theorem az {X:Cfg}{ops:Array Oper}{s:FS}{o:Oper}{p:PV}{touch:List Nat}(hd:∀d,o.dst=some d→d < X.n)
 (h:∀s':FS,(∀x∈o.op.operands,ev s' x=ev s x)→(∀k∈touch,s'.heap k=s.heap k)→∀a w c,RealC X s' a w c→∃v,(execOp a.eval o).run X.P w= .ok (.value v) w∧RepP c w p v):
 bj X ops s o {pv:=p,touch:=touch}:=
 cT hd (fun _ h=>by simp at h) fun s' he hk a w c hc=>by
  obtain⟨v,bG,hp⟩:=h s' he hk a w c hc;exact⟨.value v,v,w,bG,.inl rfl,c,hc,hp⟩
section
variable {X:Cfg}{ops:Array Oper}{s:FS}{o:Oper}(hd:∀d,o.dst=some d→d < X.n)
include hd
theorem J9 {x:Operand}(ho:o.op= .move x):bj X ops s o {pv:=ev s x}:=
 az hd fun s' he _ a w c hc=>⟨a.eval x,by simp[execOp,ho],by rw[←he x (by simp[ho,Op.operands])];exact bo hc x⟩
theorem Ex {x:Operand}(ho:o.op= .assign x):bj X ops s o {pv:=ev s x}:=
 az hd fun s' he _ a w c hc=>⟨a.eval x,by simp[execOp,ho],by rw[←he x (by simp[ho,Op.operands])];exact bo hc x⟩
omit hd in
theorem cw {s':FS}{a:Act}{w:World}{c:Cx}(hc:RealC X s' a w c){x:Operand}{v:Value}(h:ev s' x= .d (.v v)):a.eval x=v:=by
 have:=bo hc x;rw[h]at this;cases this with
 |d _ _ h=>cases h with|v=>rfl
theorem Ka {x y z:Operand}{t:Bool}(ho:o.op= .pick x y z)(hx:ev s x= .d (.v (.bool t))):bj X ops s o {pv:=if t then ev s y else ev s z}:=
 az hd fun s' he _ a w c hc=>by
  have h1:=cw hc ((he x (by simp[ho,Op.operands])).trans hx);refine⟨if t then a.eval y else a.eval z,by simp[execOp,ho,h1,asBool],?_⟩;cases t with
  |true=>rw[if_pos rfl,if_pos rfl,←he y (by simp[ho,Op.operands])];exact bo hc y
  |false=>rw[if_neg (by simp),if_neg (by simp),←he z (by simp[ho,Op.operands])];exact bo hc z
theorem Nq {t:Nat}{x:Operand}{b:Bool}(ho:o.op= .unOp .not t x)(hx:ev s x= .d (.v (.bool b))):bj X ops s o {pv:= .d (.v (.bool (!b)))}:=
 az hd fun s' he _ a w c hc=>by
  have h1:=cw hc ((he x (by simp[ho,Op.operands])).trans hx);exact⟨.bool (!b),by simp[execOp,ho,h1,Op.unary],.d _ _ (.v _)⟩
theorem Nr {t:Nat}{x:Operand}{k:IntKind}{n:Int}(ho:o.op= .unOp .neg t x)(hx:ev s x= .d (.v (.int k n))):bj X ops s o {pv:= .d (.v (.int k (k.wrap (0 - n))))}:=
 az hd fun s' he _ a w c hc=>by
  have h1:=cw hc ((he x (by simp[ho,Op.operands])).trans hx);exact⟨.int k (k.wrap (0 - n)),by simp[execOp,ho,h1,Op.unary,Op.intArith],.d _ _ (.v _)⟩
theorem qR {x:Operand}(ho:o.op= .nilCheck x)(hx:(∃k off,ev s x= .ptr k off)∨∃cs,ev s x= .d (.ept cs)):bj X ops s o {pv:=ev s x}:=
 az hd fun s' he _ a w c hc=>by
  have h0:=he x (by simp[ho,Op.operands]);have h1:=bo hc x;refine⟨a.eval x,?_,by rw[←h0];exact h1⟩;have:∃ad,a.eval x= .pointer (some ad):=by
   rcases hx with⟨k,off,hx⟩|⟨cs,hx⟩
   ·rw[h0,hx]at h1;generalize a.eval x=u at h1;cases h1;exact⟨_,rfl⟩
   ·rw[h0,hx]at h1;generalize a.eval x=u at h1;cases h1 with
    |d _ _ h=>cases h;exact⟨_,rfl⟩
  obtain⟨ad,h2⟩:=this;simp[execOp,ho,h2]
def wZ (op:BinOp)(k:IntKind)(a b:Int):Option Value:=
 match op with
 | .add=>some (.int k (k.wrap (a+b)))
 | .sub=>some (.int k (k.wrap (a - b)))
 | .mul=>some (.int k (k.wrap (a*b)))
 | .eql=>some (.bool (a==b))
 | .neq=>some (.bool (a !=b))
 | .lss=>some (.bool (decide (a < b)))
 | .leq=>some (.bool (decide (a≤b)))
 | .gtr=>some (.bool (decide (a>b)))
 | .geq=>some (.bool (decide (a≥b)))
 | .shl=>if 0≤b then some (.int k (k.wrap (a*2 ^ min b.toNat k.bits)))else none
 | .shr=>if 0≤b then some (.int k (a.fdiv (2 ^ min b.toNat k.bits)))else none
 | .and=>some (.int k (k.wrap (BitVec.ofInt k.bits a&&& BitVec.ofInt k.bits b).toNat))
 | .or=>some (.int k (k.wrap (BitVec.ofInt k.bits a|||BitVec.ofInt k.bits b).toNat))
 | .andNot=>some (.int k (k.wrap (BitVec.ofInt k.bits a&&& ~~~BitVec.ofInt k.bits b).toNat))
 |_=>none
theorem Ns {op:BinOp}{t t':Nat}{x y:Operand}{k:IntKind}{m n:Int}{r:Value}(ho:o.op= .binOp op t x y t')(hx:ev s x= .d (.v (.int k m)))(hy:ev s y= .d (.v (.int k n)))(hr:wZ op k m n=some r):
 bj X ops s o {pv:= .d (.v r)}:=
 az hd fun s' he _ a w c hc=>by
  have h1:=cw hc ((he x (by simp[ho,Op.operands])).trans hx);have h2:=cw hc ((he y (by simp[ho,Op.operands])).trans hy);refine⟨r,?_,.d _ _ (.v _)⟩;cases op<;>simp[wZ]at hr
  case shl=>obtain⟨h0,rfl⟩:=hr;simp[execOp,ho,h1,h2,eqGuard,binOp,Op.shift,Int.not_lt.2 h0]
  case shr=>obtain⟨h0,rfl⟩:=hr;simp[execOp,ho,h1,h2,eqGuard,binOp,Op.shift,Int.not_lt.2 h0]
  all_goals(subst hr;simp[execOp,ho,h1,h2,eqGuard,binOp,Op.intArith,Op.intCmp,Op.intBits])
theorem vE {op:BinOp}{t t':Nat}{x y:Operand}{k:IntKind}{m n:Int}(ho:o.op= .binOp op t x y t')(hx:ev s x= .d (.v (.int k m)))(hy:ev s y= .d (.v (.int k n)))(hn:n≠0){r:Value}
 (hr:(op= .quo∧r= .int k (k.wrap (m.tdiv n)))∨(op= .rem∧r= .int k (m.tmod n))):bj X ops s o {pv:= .d (.v r)}:=
 az hd fun s' he _ a w c hc=>by
  have h1:=cw hc ((he x (by simp[ho,Op.operands])).trans hx);have h2:=cw hc ((he y (by simp[ho,Op.operands])).trans hy);refine⟨r,?_,.d _ _ (.v _)⟩;rcases hr with⟨rfl,rfl⟩|⟨rfl,rfl⟩<;>simp[execOp,ho,h1,h2,eqGuard,binOp,Op.intDiv,hn]
omit hd in
theorem sw {P:Program}{t:Nat}(h:P.underlying t=some .bool)(m n:Bool)(w:World):(Op.equal t (.bool m) (.bool n)).run P w= .ok (m==n) w:=by
 unfold Op.equal;show (Op.equalIn (9999+1) t (.bool m) (.bool n)).run P w=_;rw[Op.equalIn,Sem.run_bind,run_underlying h];rfl
theorem vF {ti:TI}{op:BinOp}{t t':Nat}{x y:Operand}{m n:Bool}{r:Bool}(ho:o.op= .binOp op t x y t')(ht:aI X.P t=some ti)(hb:ti.kind=1)(hx:ev s x= .d (.v (.bool m)))(hy:ev s y= .d (.v (.bool n)))(hr:(op= .eql∧r=(m==n))∨(op= .neq∧r=(m !=n))):
 bj X ops s o {pv:= .d (.v (.bool r))}:=
 az hd fun s' he _ a w c hc=>by
  have h1:=cw hc ((he x (by simp[ho,Op.operands])).trans hx);have h2:=cw hc ((he y (by simp[ho,Op.operands])).trans hy);obtain⟨i,d,z,tk⟩:=fk ht;have hd':d= .bool:=by
   have:=tk.kind;rw[hb]at this;cases d<;>simp[ni]at this;rfl
  subst hd';refine⟨.bool r,?_,.d _ _ (.v _)⟩;rcases hr with⟨rfl,rfl⟩|⟨rfl,rfl⟩<;>simp[execOp,ho,h1,h2,eqGuard,binOp,sw tk.und,bne]
def yv (P:Program)(t n:Nat):Prop:=∀(w:World) (xs ys:List Int) (x y:Operand) (op:BinOp),xs.length=n→ys.length=n→op= .eql∨op= .neq→
 (do eqGuard op t x y (.agg (xs.map (Value.int .i64)).toArray) (.agg (ys.map (Value.int .i64)).toArray);binOp op t (.agg (xs.map (Value.int .i64)).toArray) (.agg (ys.map (Value.int .i64)).toArray):Sem Value).run P w= .ok (.bool (if op= .eql then xs==ys else xs !=ys)) w
def nj:List D→Option (List Int)
 |[]=>some []
 | .v (.int .i64 n)::l=>(nj l).map (n:: ·)
 |_=>none
omit hd in
theorem oQ {M:Nat→Prop}{w:World}:∀{ds:List D}{vs:List Value}{xs:List Int},cS M w ds vs→nj ds=some xs→vs=xs.map (Value.int .i64)
 |[],[],xs,_,h=>by cases h;rfl
 |[],_::_,xs,h,_=>by have:=h.1;simp at this
 |d::ds,[],xs,h,_=>by have:=h.1;simp at this
 |d::ds,v::vs,xs,h,hx=>by
  have h0:=h.2 0 d v rfl rfl;have hr:cS M w ds vs:=⟨by simpa using h.1,fun j a b h1 h2=>h.2 (j+1) a b (by simpa using h1) (by simpa using h2)⟩;unfold nj at hx;split at hx
  ·rename_i heq;cases heq
  ·rename_i n l heq;cases heq;cases h0;cases hl:nj ds with
   |none=>rw[hl]at hx;cases hx
   |some ys=>
    rw[hl]at hx;cases hx;rw[oQ hr hl];rfl
  ·cases hx
theorem yw {op:BinOp}{t t' n:Nat}{x y:Operand}{ds es:List D}{xs ys:List Int}(ho:o.op= .binOp op t x y t')(hq:yv X.P t n)(jU:op= .eql∨op= .neq)(hx:ev s x= .d (.agg ds))(hy:ev s y= .d (.agg es))
 (h1:nj ds=some xs) (h2:nj es=some ys) (h3:xs.length=n) (h4:ys.length=n):bj X ops s o {pv:= .d (.v (.bool (if op= .eql then xs==ys else xs !=ys)))}:=
 az hd fun s' he _ a w c hc=>by
  have e1:=bo hc x;have e2:=bo hc y;rw[he x (by simp[ho,Op.operands]),hx]at e1;rw[he y (by simp[ho,Op.operands]),hy]at e2;refine⟨_,?_,.d _ _ (.v _)⟩;generalize hu:a.eval x=u at e1;generalize hv:a.eval y=v at e2;cases e1 with
  |d _ _ e1=>
   cases e2 with
   |d _ _ e2=>
    cases e1 with
    |agg _ vs hl _ aV=>
     cases e2 with
     |agg _ vs' hl' _ mJ=>
      have g1:=oQ (xs:=xs) ⟨hl,aV⟩ h1;have g2:=oQ (xs:=ys) ⟨hl',mJ⟩ h2;subst g1;subst g2;have:=hq w xs ys x y op h3 h4 jU;simp only[execOp,ho,hu,hv];rw[Sem.run_bind,this];rfl
theorem GY {t f off sz:Nat}{x:Operand}{ds:List D}{ti:TI}(ho:o.op= .fieldAddr t x f)(ht:aI X.P t=some ti)(hf:ti.fields[f]? =some (off,sz))(hs:sz≠0)(hx:ev s x= .d (.ept ds)):
 bj X ops s o {pv:= .d (.ept (ds.drop off))}:=
 az hd fun s' he _ a w c hc=>by
  have e1:=bo hc x;rw[he x (by simp[ho,Op.operands]),hx]at e1;generalize hu:a.eval x=u at e1;cases e1 with
  |d _ _ e1=>
   cases e1 with
   |ept _ b o' fv hM hb h1 bE aV=>
    have bG:((execOp a.eval o).run X.P w)= .ok (.value (.pointer (some ⟨b,o'+off,none⟩))) w:=by
     obtain⟨i,d,z,tk⟩:=fk ht;obtain⟨fs,g,j,rfl,-,q1,q2,q3,q4⟩:=tk.field hf;have JX:j.size≠0:=by omega
     simp[execOp,ho,hu,Instr.fieldAt,run_underlying tk.und,q1,Instr.sureAddr,fieldPlace,sizeOf,typeInfo,q2,JX,q3,Addr.add_lit]
    refine⟨_,bG,.d _ _ (.ept _ b (o'+off) (fun j=>fv (off+j)) hM hb (fun d hd=>h1 d (WL hd)) (fun j hj=>?_) (fun j d hj=>?_))⟩
    ·rw[XI];exact bE (off+j) (by rw[Wt]at hj;omega)
    ·exact aV (off+j) d (by rwa [WU]at hj)
end
def ap {α:Type}(l:List α)(off:Nat)(xs:List α):List α:=l.take off++xs++l.drop (off+xs.length)
theorem fu {α:Type}{l xs:List α}{off:Nat}(h:off+xs.length≤l.length)(k:Nat):(ap l off xs)[k]? =if off≤k∧k < off+xs.length then xs[k - off]? else l[k]? :=by
 unfold ap;have h1:(l.take off).length=off:=by rw[V2];omega
 by_cases hk:k < off
 ·rw[WE,WK (by omega),if_neg (by omega),Wo hk]
 ·by_cases kD:k < off+xs.length
  ·rw[WE,Wq (by omega),h1,WK (by omega),if_pos (by omega)]
  ·rw[Wq (by rw[V9,h1];omega),V9,h1,WU,if_neg (by omega)];congr 1;omega
theorem aM {α:Type}{l xs:List α}{off:Nat}(h:off+xs.length≤l.length):(ap l off xs).length=l.length:=by
 simp only[ap,V9,V2,Wt];omega
def mU (off:Nat)(l:List Value)(i:Nat)(cs:Array Value):Array Value:=(l.zipIdx i).foldl (fun cs (c,j)=>cs.setIfInBounds (off+j) c) cs
theorem qS (off:Nat):∀(l:List Value) (i:Nat) (cs:Array Value) (k:Nat),off+i+l.length≤cs.size→(mU off l i cs)[k]? =if off+i≤k∧k < off+i+l.length then l[k - (off+i)]? else cs[k]?
 |[],i,cs,k,_=>by rw[if_neg (by simp)];rfl
 |v::l,i,cs,k,h=>by
  have h':off+i < cs.size:=by simp at h;omega
  have:=qS off l (i+1) (cs.setIfInBounds (off+i) v) k (by simp at h ⊢;omega);have e:mU off (v::l) i cs=mU off l (i+1) (cs.setIfInBounds (off+i) v):=by simp[mU,List.zipIdx_cons]
  rw[e,this];by_cases hk:k=off+i
  ·subst hk;rw[if_neg (by omega),if_pos ⟨Wa _,by simp⟩];simp[h']
  ·rw[Y2 (fun e=>hk e.symm)];by_cases kD:off+(i+1)≤k∧k < off+(i+1)+l.length
   ·rw[if_pos kD,if_pos ⟨by omega,by simp;omega⟩];rw[show k - (off+i)=(k - (off+(i+1)))+1 by omega,Xg]
   ·rw[if_neg kD,if_neg (by simp;omega)]
theorem w7 (off:Nat)(l:List Value)(cs:Array Value)(h:off+l.length≤cs.size):(mU off l 0 cs).toList=ap cs.toList off l:=by
 apply WS;intro k;rw[fu (by simpa using h),WB,qS off l 0 cs k (by simpa using h)];simp
theorem vG (place:Nat→Option (Nat × Nat))(cells:Array Value)(i off size:Nat)(v:Value)(rest:List (Nat × Value))(hp:place i=some (off,size))(hs:v.cells.size=size)(ho:off+size≤cells.size):
 Instr.fill place cells ((i,v)::rest)=Instr.fill place (ap cells.toList off v.cells.toList).toArray rest:=by
 have e:(v.cells.zipIdx.foldl (fun cs (c,j)=>cs.setIfInBounds (off+j) c) cells)=(ap cells.toList off v.cells.toList).toArray:=by
  have h1:=w7 off v.cells.toList cells (by simp;omega);rw[←h1,Y4];unfold mU;rw[←Array.foldl_toList,Array.toList_zipIdx]
 rw[Instr.fill];simp only[hp];rw[if_neg (by simp[hs];omega),e]
def cj:PV→List PV
 | .d (.agg ds)=>ds.map .d
 | .agg ps=>ps
 |p=>[p]
def vH:PV→Bool
 | .d (.agg _)=>true
 | .agg _=>true
 |p=>p.one
theorem aZ.one {c:Cx}{w:World}{ds:List PV}{vs:List Value}(h:aZ c w ds vs)(h1:∀d∈ds,d.one=true):∀x∈vs,x.oneCell'=true:=by
 intro x hx;obtain⟨j,hj,e⟩:=WR hx;have hj':j < ds.length:=by rw[h.1];exact hj
 exact(h.2 j ds[j] x (VY hj') (by rw[←e];exact VY hj)).one (h1 _ (W8 hj'))
theorem cS.one {M:Nat→Prop}{w:World}{ds:List D}{vs:List Value}(h:cS M w ds vs)(h1:∀d∈ds,d.one=true):∀x∈vs,x.oneCell'=true:=by
 intro x hx;obtain⟨j,hj,e⟩:=WR hx;have hj':j < ds.length:=by rw[h.1];exact hj
 exact(h.2 j ds[j] x (VY hj') (by rw[←e];exact VY hj)).one (h1 _ (W8 hj'))
theorem Ey {v:Value}(h:v.oneCell'=true):v.cells=#[v]:=by
 cases v<;>first|rfl|cases h
theorem iF {c:Cx}{w:World}{p:PV}{v:Value}(h:RepP c w p v)(cr:vH p=true):aZ c w (cj p) v.cells.toList∧∀d∈cj p,d.one=true:=by
 have single:p.one=true→cj p=[p]→aZ c w (cj p) v.cells.toList∧∀d∈cj p,d.one=true:=by
  intro h1 e;rw[e,Ey (h.one h1)];refine⟨⟨rfl,fun j d x hj hx=>?_⟩,fun d hd=>by simp at hd;subst hd;exact h1⟩;cases j with
  |zero=>simp at hj hx;subst hj;subst hx;exact h
  |succ j=>simp at hj
 cases p with
 |d x=>
  cases x with
  |agg ds=>
   cases h with
   |d _ _ h=>
    cases h with
    |agg _ vs hl h1 aV=>
     refine⟨⟨by simpa[cj,Value.cells]using hl,fun j d x hj hx=>?_⟩,fun d hd=>?_⟩
     ·simp only[cj,V7,Wh]at hj;obtain⟨y,hy,rfl⟩:=hj;exact .d _ _ (aV j y x hy (by simpa[Value.cells]using hx))
     ·simp only[cj,Wp]at hd;obtain⟨y,hy,rfl⟩:=hd;exact h1 y hy
  |tup ds=>simp[vH,PV.one,D.one]at cr
  |_=>exact single cr rfl
 |any=>simp[vH,PV.one]at cr
 |tup=>simp[vH,PV.one]at cr
 |agg ps=>
  cases h with
  |agg _ vs hl h1 aV=>exact⟨⟨by simpa[cj,Value.cells]using hl,fun j d x hj hx=>aV j d x hj (by simpa[Value.cells]using hx)⟩,h1⟩
 |_=>exact single cr rfl
theorem j3 {c:Cx}{w:World}{ds es:List PV}{vs us:List Value}{off:Nat}(h:aZ c w ds vs)(g:aZ c w es us)(ho:off+es.length≤ds.length):aZ c w (ap ds off es) (ap vs off us):=by
 have ho':off+us.length≤vs.length:=by rw[←g.1,←h.1];exact ho
 refine⟨by rw[aM ho,aM ho',h.1],fun j d x hj hx=>?_⟩;rw[fu ho]at hj;rw[fu ho',←g.1]at hx;by_cases hc:off≤j∧j < off+es.length
 ·rw[if_pos hc]at hj hx;exact g.2 _ d x hj hx
 ·rw[if_neg hc]at hj hx;exact h.2 _ d x hj hx
theorem iG {α:Type}{l xs:List α}{off:Nat}{d:α}(h:d∈ap l off xs):d∈l∨d∈xs:=by
 simp only[ap,WJ]at h;rcases h with (h|h)|h
 ·exact .inl (WN h)
 ·exact .inr h
 ·exact .inl (WL h)
theorem Di {M:Nat→Prop}{w:World}(vs:List Value):cS M w (vs.map .v) vs:=⟨by simp,fun j d x hj hx=>by
 simp only[V7,hx,WQ,WD.injEq]at hj;subst hj;exact .v x⟩
theorem mV {c:Cx}{w:World}{ds:List D}{vs:List Value}(h:cS c.M w ds vs):aZ c w (ds.map .d) vs:=⟨by simpa using h.1,fun j d x hj hx=>by
 simp only[V7,Wh]at hj;obtain⟨y,hy,rfl⟩:=hj;exact .d _ _ (h.2 j y x hy hx)⟩
def sx:List PV→Option (List D)
 |[]=>some []
 | .d x::l=>(sx l).map (x:: ·)
 |_=>none
theorem oR:∀{l:List PV}{ds:List D},sx l=some ds→l=ds.map .d
 |[],ds,h=>by simp[sx]at h;subst h;rfl
 |p::l,ds,h=>by
  unfold sx at h;split at h
  ·rename_i heq;cases heq
  ·rename_i x l' heq;cases heq;cases hl:sx l with
   |none=>rw[hl]at h;cases h
   |some es=>
    rw[hl]at h;cases h;rw[oR hl];rfl
  ·cases h
def pU (l:List PV):PV:=match sx l with|some ds=> .d (.agg ds)|none=> .agg l
def GZ (l:List PV):PV:=match sx l with|some ds=> .d (.tup ds)|none=> .tup l
theorem sy {c:Cx}{w:World}{ds:List D}{vs:List Value}(h:aZ c w (ds.map .d) vs):cS c.M w ds vs:=⟨by simpa using h.1,fun j d x hj hx=>by
 have:=h.2 j (.d d) x (by rw[V7,hj];rfl) hx;cases this with|d _ _ h=>exact h⟩
theorem oS {c:Cx}{w:World}{l:List PV}{vs:List Value}(h:aZ c w l vs)(h1:∀d∈l,d.one=true):RepP c w (pU l) (.agg vs.toArray):=by
 unfold pU;split
 ·rename_i ds cZ;have e:=oR cZ;subst e;have:=sy h;exact .d _ _ (.agg ds vs this.1 (fun d hd=>h1 (.d d) (XC hd)) this.2)
 ·exact .agg l vs h.1 h1 h.2
theorem G0 {c:Cx}{w:World}{l:List PV}{vs:List Value}(h:aZ c w l vs):RepP c w (GZ l) (.tuple vs.toArray):=by
 unfold GZ;split
 ·rename_i ds cZ;have e:=oR cZ;subst e;have:=sy h;exact .d _ _ (.tup ds vs this.1 this.2)
 ·exact .tup l vs h.1 h.2
def nm {α:Type}(pl:List (Nat × Nat)):List α→List (Nat × List α)→Option (List α)
 |cells,[]=>some cells
 |cells,(i,xs)::rest=>
  match pl[i]? with
  |none=>none
  |some (off,size)=>if xs.length=size∧off+size≤cells.length then nm pl (ap cells off xs) rest else none
theorem yx {c:Cx}{w:World}(pl:List (Nat × Nat))(place:Nat→Option (Nat × Nat))(lG:∀i p,pl[i]? =some p→place i=some p):∀(pd:List (Nat × List PV)) (pv:List (Nat × Value)) (cells:List PV) (vs:List Value) (out:List PV),aZ c w cells vs→
 pd.map (·.1)=pv.map (·.1)→(∀(j:Nat) (d:Nat × List PV) (x:Nat × Value),pd[j]? =some d→pv[j]? =some x→aZ c w d.2 x.2.cells.toList)→nm pl cells pd=some out→(∀d∈cells,d.one=true)→(∀q∈pd,∀d∈q.2,d.one=true)→
 ∃vs':List Value,Instr.fill place vs.toArray pv=some vs'.toArray∧aZ c w out vs'∧(∀d∈out,d.one=true)∧out.length=cells.length
 |[],[],cells,vs,out,h,_,_,hf,h1,_=>by
  simp[nm]at hf;subst hf;exact⟨vs,rfl,h,h1,rfl⟩
 |[],_::_,_,_,_,_,hm,_,_,_,_=>by simp at hm
 |_::_,[],_,_,_,_,hm,_,_,_,_=>by simp at hm
 |(i,xs)::pd,(i',v)::pv,cells,vs,out,h,hm,hr,hf,h1,h2=>by
  simp only[V1,List.cons.injEq]at hm;obtain⟨rfl,hm⟩:=hm;have hx:=hr 0 (i,xs) (i,v) rfl rfl;unfold nm at hf;split at hf
  ·cases hf
  ·rename_i off size hp;split at hf
   ·rename_i hc;have qI:v.cells.size=size:=by have:=hx.1;simp at this;omega
    have bc:off+xs.length≤cells.length:=by omega
    rw[vG place vs.toArray i off size v pv (lG i _ hp) qI (by have:=h.1;simp;omega)];obtain⟨vs',q1,q2,q3,q4⟩:=yx pl place lG pd pv (ap cells off xs) (ap vs off v.cells.toList) out (j3 h hx bc) hm (fun j d x hj hx=>hr (j+1) d x (by simpa using hj) (by simpa using hx)) hf
     (fun d hd=>(iG hd).elim (h1 d) (h2 (i,xs) (by simp) d)) (fun q hq=>h2 q (by simp[hq]))
    exact⟨vs',q1,q2,q3,by rw[q4,aM bc]⟩
   ·cases hf
theorem bA {c:Cx}{w:World}{d:D}{v:Value}(h:RepP c w (.d d) v):RepD c.M w d v:=by
 cases h with|d _ _ h=>exact h
theorem bM {α:Type}{sz:Nat}:∀{rows:List (List α)},(∀r∈rows,r.length=sz)→∀i j,j < sz→rows.flatten[i*sz+j]? =(rows[i]?).bind (·[j]?)
 |[],_,i,j,_=>by simp
 |r::rows,h,0,j,hj=>by
  rw[Xe,WK (by rw[h r (by simp)];omega)];simp
 |r::rows,h,i+1,j,hj=>by
  have hr:=h r (by simp);rw[Xe,Wq (by rw[hr,Xf];omega),hr,show (i+1)*sz+j - sz=i*sz+j by rw[Xf];omega,bM (fun r hr=>h r (by simp[hr])) i j hj];simp
section
variable {X:Cfg}{ops:Array Oper}{s:FS}{o:Oper}(hd:∀d,o.dst=some d→d < X.n)
include hd
theorem yy {t f off sz k o':Nat}{x:Operand}{ti:TI}(ho:o.op= .fieldAddr t x f)(ht:aI X.P t=some ti)(hf:ti.fields[f]? =some (off,sz))(hs:sz≠0)(hx:ev s x= .ptr k o'):
 bj X ops s o {pv:= .ptr k (o'+off)}:=
 az hd fun s' he _ a w c hc=>by
  have e1:=bo hc x;rw[he x (by simp[ho,Op.operands]),hx]at e1;generalize hu:a.eval x=u at e1;cases e1 with
  |ptr _ _ b hb=>
   obtain⟨i,d,z,tk⟩:=fk ht;obtain⟨fs,g,j,rfl,-,q1,q2,q3,q4⟩:=tk.field hf;have JX:j.size≠0:=by omega
   exact⟨.pointer (some ⟨b,o'+off,none⟩),by simp[execOp,ho,hu,Instr.fieldAt,run_underlying tk.und,q1,Instr.sureAddr,fieldPlace,sizeOf,typeInfo,q2,JX,q3,Addr.add_lit],.ptr k _ b hb⟩
omit hd in
theorem kM {P:Program}{t:Nat}{ti:TI}(ht:aI P t=some ti)(w:World)(b off:Nat)(cs:List Value)(hl:cs.length=ti.size)(mK:∀j v,cs[j]? =some v→w.cell? ⟨b,off+j,none⟩=some v)(h0:ti.agg=false→∃v,cs=[v]):
 (Instr.loadAt t (.pointer (some ⟨b,off,none⟩))).run P w= .ok (if ti.agg then .agg cs.toArray else cs.headD undef) w:=by
 obtain⟨i,d,z,tk⟩:=fk ht;have F9:(isAgg t).run P w= .ok ti.agg w:=by
  unfold isAgg;rw[Sem.run_bind,run_underlying tk.und w,←tk.agg];cases d<;>simp[J7]
 have bE:∀j v,cs[j]? =some v→w.cell? ((⟨b,off,none⟩:Addr).add j)=some v:=fun j v hv=>by rw[Addr.add_lit];exact mK j v hv
 cases hg:ti.agg with
 |true=>
  have hl':=run_loadCells_list (P:=P) w ⟨b,off,none⟩ cs bE;rw[hl,←tk.size]at hl';rw[hg]at F9;simp[Instr.loadAt,Instr.sureAddr,loadVar,Sem.run_bind,F9,sizeOf,typeInfo,tk.info,hl']
 |false=>
  obtain⟨v,rfl⟩:=h0 hg;rw[hg]at F9;have:=mK 0 v rfl;simp only[Wz]at this;simp[Instr.loadAt,Instr.sureAddr,loadVar,Sem.run_bind,F9,this]
theorem yz {t:Nat}{x:Operand}{ti:TI}{ds:List D}{p:D}(ho:o.op= .load t x)(ht:aI X.P t=some ti)(hx:ev s x= .d (.ept ds))(ck:ti.size≤ds.length)(hp:(ti.agg=true∧p= .agg (ds.take ti.size))∨(ti.agg=false∧ti.size=1∧ds[0]? =some p)):
 bj X ops s o {pv:= .d p}:=
 az hd fun s' he _ a w c hc=>by
  have e1:=bo hc x;rw[he x (by simp[ho,Op.operands]),hx]at e1;generalize hu:a.eval x=u at e1;cases e1 with
  |d _ _ e1=>
   cases e1 with
   |ept _ b off f hM hb h1 bE aV=>
    have bG:=kM ht w b off ((WC ti.size).map f) (by simp) (fun j v hj=>by
     simp only[V7,Wh]at hj;obtain⟨y,hy,rfl⟩:=hj;have:=Yw (n:=ti.size) (i:=j);have hj':j < ti.size:=by
      rcases Wv j ti.size with h|h
      ·exact h
      ·rw[Wm (by simpa using h)]at hy;cases hy
     rw[Yw hj']at hy;cases hy;exact bE j (by omega))
    rcases hp with⟨nd,rfl⟩|⟨nd,vi,hp⟩
    ·refine⟨.agg ((WC ti.size).map f).toArray,?_,.d _ _ (.agg _ _ (by simp;omega) (fun d hd=>h1 d (WN hd)) (fun j d v hj hv=>?_))⟩
     ·have:=bG (fun h=>by rw[nd]at h;cases h);rw[nd,if_pos rfl]at this;simp only[execOp,ho,hu];rw[Sem.run_bind,this];rfl
     ·rw[XO]at hj;split at hj
      ·rename_i hlt;simp only[V7,Yw hlt,WQ,WD.injEq]at hv;subst hv;exact aV j d hj
      ·cases hj
    ·refine⟨f 0,?_,.d _ _ (aV 0 p hp)⟩;have:=bG (fun _=>⟨f 0,by rw[vi];rfl⟩);rw[nd,vi]at this;simp only[execOp,ho,hu];rw[Sem.run_bind,this];rfl
omit hd in
theorem dE {α:Type}{l:List α}{off n j:Nat}{x:α}(h:((l.drop off).take n)[j]? =some x):j < n∧l[off+j]? =some x:=by
 rw[XO]at h;split at h
 ·rename_i hlt;rw[WU]at h;exact⟨hlt,h⟩
 ·cases h
omit hd in
theorem aZ.part {c:Cx}{w:World}{l:List PV}{vs:List Value}(h:aZ c w l vs)(off n:Nat):aZ c w ((l.drop off).take n) ((vs.drop off).take n):=
 ⟨by rw[V2,V2,Wt,Wt,h.1],fun j d x hj hx=>h.2 _ d x (dE hj).2 (dE hx).2⟩
theorem yA {t k off T:Nat}{x:Operand}{ti:TI}{cells:List PV}{p:PV}(ho:o.op= .load t x)(ht:aI X.P t=some ti)(hx:ev s x= .ptr k off)(hk:s.heap k= .box T cells)(ck:off+ti.size≤cells.length)
 (hp:(ti.agg=true∧p=pU ((cells.drop off).take ti.size))∨(ti.agg=false∧ti.size=1∧cells[off]? =some p)):bj X ops s o {pv:=p,touch:=[k]}:=
 az hd fun s' he fj a w c hc=>by
  have e1:=bo hc x;rw[he x (by simp[ho,Op.operands]),hx]at e1;generalize hu:a.eval x=u at e1;have bn:=hc.chunk k;rw[fj k (by simp),hk]at bn;cases e1 with
  |ptr _ _ b hb=>
   cases bn with
   |box _ _ b' vs hb' hh hr h1=>
    rw[hb]at hb';cases hb';have MV:vs.length=cells.length:=hr.1.symm;have bG:=kM ht w b off ((vs.drop off).take ti.size) (by rw[V2,Wt];omega) (fun j v hj=>by
     simp[Xl,hh,(dE hj).2])
    rcases hp with⟨nd,rfl⟩|⟨nd,vi,hp⟩
    ·refine⟨.agg ((vs.drop off).take ti.size).toArray,?_,oS (hr.part off ti.size) (fun d hd=>h1 d (WL (WN hd)))⟩;have:=bG (fun h=>by rw[nd]at h;cases h);rw[nd,if_pos rfl]at this;simp only[execOp,ho,hu];rw[Sem.run_bind,this];rfl
    ·obtain⟨v,hv⟩:∃v,vs[off]? =some v:=⟨vs[off]'(by omega),VY _⟩;have da:(vs.drop off).take ti.size=[v]:=by
      rw[vi,Xv (by omega)];simp only[Yd,XH];rw[VY (by omega)]at hv;simpa using hv
     refine⟨v,?_,hr.2 off p v hp hv⟩;have:=bG (fun _=>⟨v,da⟩);rw[nd,da]at this;simp only[execOp,ho,hu];rw[Sem.run_bind,this];rfl
theorem G1 {t e sz:Nat}{x y:Operand}{ti te:TI}{rows:List (List D)}{row:List D}{kd:IntKind}{n:Int}(ho:o.op= .indexAddr t x y)(ht:aI X.P t=some ti)(he':ti.elem=some e)(eP:aI X.P e=some te)(ck:te.size=sz)
 (hx:ev s x= .d (.sl sz rows)) (hy:ev s y= .d (.v (.int kd n))) (hn:0≤n) (bu:rows[n.toNat]? =some row):bj X ops s o {pv:= .d (.ept row)}:=
 az hd fun s' he _ a w c hc=>by
  have e1:=bo hc x;rw[he x (by simp[ho,Op.operands]),hx]at e1;have e2:=cw hc ((he y (by simp[ho,Op.operands])).trans hy);generalize hu:a.eval x=u at e1;have hlt:n.toNat < rows.length:=(V3.1 bu).1;have e1:=bA e1;cases e1 with
  |nil=>simp at hlt
  |sl _ _ b off cap f hM hb hc' hm hr h1 bE aV=>
   obtain⟨i,d,z,tk⟩:=fk ht;obtain⟨ie,de,ze,tke⟩:=fk eP;have ib:d= .slice e:=by
    have:=tk.elem;rw[he']at this;cases d<;>simp[eu]at this;rw[this]
   subst ib;have pG:0≤n∧n < (rows.length:Int):=⟨hn,by omega⟩;have wP:row.length=sz:=hr row (V0 bu);refine⟨.pointer (some ⟨b,off+n.toNat*sz,none⟩),?_,.d _ _ (.ept row b _ (fun j=>f n.toNat j) hM hb (fun d hd=>h1 row (V0 bu) d hd) (fun j hj=>bE _ j hlt (by omega)) (fun j d hj=>aV _ j row d bu hj))⟩;simp[execOp,ho,hu,e2,Instr.indexAt,asIntOf,run_underlying tk.und,pG,sizeOf,typeInfo,tke.info,tke.size,ck,Addr.add_lit]
theorem G3 {t ty:Nat}{x:Operand}{e:Nat}{ti:TI}{d:D}{n:Nat}(ho:o.op= .call {callee:= .builtin .len,args:=#[x],argTypes:=#[t]})(ht:aI X.P t=some ti)(he':ti.elem=some e)(hx:ev s x= .d d)
 (hn:(∃sz rows,d= .sl sz rows∧n=rows.length)∨(d= .v (.slice none 0 0)∧n=0)):bj X ops s o {pv:= .d (.v (.int .i64 n))}:=
 az hd fun s' he _ a w c hc=>by
  have e1:=bo hc x;rw[he x (by simp[ho,Op.operands,Call.operands]),hx]at e1;generalize hu:a.eval x=u at e1;obtain⟨i,dd,z,tk⟩:=fk ht;have ib:dd= .slice e:=by
   have:=tk.elem;rw[he']at this;cases dd<;>simp[eu]at this;rw[this]
  subst ib;have xY:∃ao cap,u= .slice ao n cap:=by
   have e1:=bA e1;rcases hn with⟨sz,rows,rfl,rfl⟩|⟨rfl,rfl⟩
   ·cases e1 with
    |nil _ ao cap=>exact⟨ao,cap,rfl⟩
    |sl _ _ b off cap=>exact⟨_,cap,rfl⟩
   ·cases e1;exact⟨none,0,rfl⟩
  obtain⟨ao,cap,rfl⟩:=xY;refine⟨.int .i64 n,?_,.d _ _ (.v _)⟩;simp[execOp,ho,hu,resolve,invoke,builtin,Builtin.len_,run_underlying tk.und,goInt]
theorem BA {x:Operand}{i:Nat}{ds:List D}{d:D}(ho:o.op= .extract x i)(hx:ev s x= .d (.tup ds))(hi:ds[i]? =some d):bj X ops s o {pv:= .d d}:=
 az hd fun s' he _ a w c hc=>by
  have e1:=bo hc x;rw[he x (by simp[ho,Op.operands]),hx]at e1;generalize hu:a.eval x=u at e1;have e1:=bA e1;cases e1 with
  |tup _ vs hl aV=>
   have hlt:i < vs.length:=by rw[←hl];exact(V3.1 hi).1
   have hv:vs[i]? =some vs[i]:=VY hlt;exact⟨vs[i],by simp[execOp,ho,hu,Instr.extract,hv],.d _ _ (aV i d _ hi hv)⟩
theorem yB {x:Operand}{i:Nat}{ds:List PV}{d:PV}(ho:o.op= .extract x i)(hx:ev s x= .tup ds)(hi:ds[i]? =some d):bj X ops s o {pv:=d}:=
 az hd fun s' he _ a w c hc=>by
  have e1:=bo hc x;rw[he x (by simp[ho,Op.operands]),hx]at e1;generalize hu:a.eval x=u at e1;cases e1 with
  |tup _ vs hl aV=>
   have hlt:i < vs.length:=by rw[←hl];exact(V3.1 hi).1
   have hv:vs[i]? =some vs[i]:=VY hlt;exact⟨vs[i],by simp[execOp,ho,hu,Instr.extract,hv],aV i d _ hi hv⟩
theorem vI {t:Nat}{pl:List (Nat × Nat)}{place:Nat→Option (Nat × Nat)}{parts:Array (Nat × Operand)}{ti:TI}{pd:List (Nat × List PV)}{out:List PV}(ho:o.op= .build t parts)(ht:aI X.P t=some ti)(lG:∀i p,pl[i]? =some p→place i=some p)(Uz:∀ps,X.P.built t ps=Instr.fill place ti.zero.toArray ps)
 (hp:pd.length=parts.size) (hq:∀(j:Nat) (i:Nat) (x:Operand),parts[j]? =some (i,x)→pd[j]? =some (i,cj (ev s x))∧vH (ev s x)=true) (hf:nm pl (ti.zero.map fun x=> .d (.v x)) pd=some out):
 bj X ops s o {pv:=pU out}:=
 az hd fun s' he _ a w c hc=>by
  obtain⟨i,d,z,tk⟩:=fk ht;have wL:aZ c w (ti.zero.map fun x=> .d (.v x)) ti.zero:=by
   have:=mV (c:=c) (Di (M:=c.M) (w:=w) ti.zero);rwa [Yz]at this
  have Qk:∀d∈ti.zero.map (fun x=>PV.d (.v x)),d.one=true:=by
   intro d hd;obtain⟨x,hx,rfl⟩:=Wp.1 hd;exact tk.one x hx
  have lH:∀(j:Nat) (d:Nat × List PV) (x:Nat × Value),pd[j]? =some d→(parts.toList.map fun(i,x)=>(i,a.eval x))[j]? =some x→d.1=x.1∧aZ c w d.2 x.2.cells.toList∧∀e∈d.2,e.one=true:=by
   intro j d x hj hx;simp only[V7,WB,Wh]at hx;obtain⟨⟨i,y⟩,hy,rfl⟩:=hx;obtain⟨h1,h3⟩:=hq j i y hy;rw[hj]at h1;cases h1;have pH:y∈o.op.operands:=by
    rw[ho];simp only[Op.operands,Za,Wp];exact⟨(i,y),by simpa using Yn hy,rfl⟩
   have aV:=bo hc y;rw[he y pH]at aV;rw[←he y pH]at h3;have:=iF (bo hc y) h3;rw[he y pH]at this;exact⟨rfl,this⟩
  obtain⟨vs',q1,q2,q3,q4⟩:=yx (c:=c) (w:=w) pl place lG pd (parts.toList.map fun(i,x)=>(i,a.eval x)) (ti.zero.map fun x=> .d (.v x)) ti.zero out wL
   (by
    apply WS;intro j;simp only[V7];cases hj:parts[j]? with
    |none=>
     have h1:parts.size≤j:=by simpa using hj
     rw[Wm (by omega)];simp[hj]
    |some ix=>
     obtain⟨i,x⟩:=ix;obtain⟨h1,-⟩:=hq j i x hj;simp[hj,h1])
   (fun j d x h1 h2=>(lH j d x h1 h2).2.1) hf Qk
   (fun q hq' e he'=>by
    obtain⟨j,hj,TE⟩:=WR hq';have Sa:j < parts.toList.length:=by simpa using hp ▸ hj
    exact(lH j q _ (by rw[←TE];exact VY hj) (by rw[V7,VY Sa];rfl)).2.2 e he')
  refine⟨.agg vs'.toArray,?_,oS q2 q3⟩;have hb:X.P.built t (parts.map fun(i,x)=>(i,a.eval x)).toList=some vs'.toArray:=by
   rw[Uz,YL];exact q1
  have:=run_build w t (parts.map fun(i,x)=>(i,a.eval x)) vs'.toArray hb;simp only[execOp,ho];rw[Sem.run_bind,this];rfl
theorem G4 {t:Nat}{parts:Array (Nat × Operand)}{ti:TI}{pd:List (Nat × List PV)}{out:List PV}(ho:o.op= .build t parts)(ht:aI X.P t=some ti)(jv:ti.fields≠[])
 (hp:pd.length=parts.size) (hq:∀(j:Nat) (i:Nat) (x:Operand),parts[j]? =some (i,x)→pd[j]? =some (i,cj (ev s x))∧vH (ev s x)=true) (hf:nm ti.fields (ti.zero.map fun x=> .d (.v x)) pd=some out):
 bj X ops s o {pv:=pU out}:=
 by
  obtain⟨i,d,z,tk⟩:=fk ht;obtain⟨⟨off,sz⟩,rest,iN⟩:∃p l,ti.fields=p::l:=by
   cases h:ti.fields with
   |nil=>exact absurd h jv
   |cons p l=>exact⟨p,l,rfl⟩
  obtain⟨fs,g,j,rfl,lG,-⟩:=tk.field (f:=0) (off:=off) (sz:=sz) (by rw[iN];rfl);refine vI hd ho ht (pl:=ti.fields) (place:=(ti.fields.toArray[·]?)) (fun i p h=>by simpa using h) (fun ps=>?_) hp hq hf;unfold Program.built;have Sb:fs.toList.mapM (fun f=>(X.P.info? f.type).map fun i=>(f.offset,i.size))=some ti.fields:=lG;have:z.cells=ti.zero.toArray:=by rw[←tk.zcells]
  simp only[tk.info,tk.und,tk.zero,Sb,this]
theorem yC {g:Nat}{caps:Array Operand}(ho:o.op= .makeFunc (.func g) #[] caps):bj X ops s o {pv:= .clo g (caps.toList.map (ev s))}:=
 az hd fun s' he _ a w c hc=>by
  refine⟨.func (.func g) #[] (caps.toList.map a.eval).toArray,?_,.clo g _ _ (by simp) (fun j d x hj hx=>?_)⟩
  ·have:(caps.toList.map a.eval).toArray=caps.map a.eval:=by rw[←YL]
   rw[this];simp[execOp,ho,Instr.makeFunc]
  ·simp only[V7,WB,Wh]at hj hx;obtain⟨y,hy,rfl⟩:=hj;obtain⟨y',hy',rfl⟩:=hx;rw[hy]at hy';cases hy';have:=bo hc y;rwa [he y (by rw[ho];simp[Op.operands,Yn hy])]at this
theorem BB {t f off sz k g sz' i j:Nat}{x:Operand}{ti:TI}(ho:o.op= .fieldAddr t x f)(ht:aI X.P t=some ti)(hf:ti.fields[f]? =some (off,sz))(hs:sz≠0)(hx:ev s x= .rp k g sz' i j):
 bj X ops s o {pv:= .rp k g sz' i (j+off)}:=
 az hd fun s' he _ a w c hc=>by
  have e1:=bo hc x;rw[he x (by simp[ho,Op.operands]),hx]at e1;generalize hu:a.eval x=u at e1;cases e1 with
  |rp _ _ _ _ _ b n cap hb=>
   obtain⟨ii,d,z,tk⟩:=fk ht;obtain⟨fs,g,jj,rfl,-,q1,q2,q3,q4⟩:=tk.field hf;have JX:jj.size≠0:=by omega
   exact⟨.pointer (some ⟨b,i*sz'+(j+off),none⟩),by simp[execOp,ho,hu,Instr.fieldAt,run_underlying tk.und,q1,Instr.sureAddr,fieldPlace,sizeOf,typeInfo,q2,JX,q3,Addr.add_lit,XI],.rp k _ _ _ _ b n cap hb⟩
omit hd in
theorem di {k E sz g:Nat}{rows:List (List PV)}{c:Cx}{w:World}{b n cap:Nat}(bn:ChunkOK c w k (.row E sz g rows))(hb:c.ov k g=some (.slice (some ⟨b,0,none⟩) n cap))(bu:rows≠[]):
 ∃(cur:Array Value) (xs:List Value),w.heap[b]? =some (.cells cur E (0,0))∧aZ c w rows.flatten xs∧xs.length=rows.length*sz∧(∀j,j < rows.length*sz→cur[j]? =xs[j]?)∧(∀r∈rows,r.length=sz)∧(∀r∈rows,∀d∈r,d.one=true)∧n=rows.length∧rows.length*sz≤cur.size∧
  cap≤maxLen∧n≤cap∧cur.size=cap*sz:=by
 cases bn with
 |row _ _ _ _ u xs hu bf hr ck h1 hg=>
  rw[hb]at hu;cases hu;generalize hn:rows.length=n' at bf;cases bf with
  |zero a=>exact absurd (WA hn) bu
  |row _ _ _ cur _ h0 hh Gq hm hs hl ht=>
   refine⟨cur,xs,hh,hr,hl,fun j hj=>?_,ck,h1,rfl,?_,hm,Gq,hs⟩
   ·rw[←ht,Wo hj,WB]
   ·rw[hs];exact WX sz Gq
omit hd in
theorem j4 {k E sz g:Nat}{rows:List (List PV)}{c:Cx}{w:World}{v:Value}(bn:ChunkOK c w k (.row E sz g rows))(dy:c.ov k g=some v)(bu:rows≠[]):∃b cap,v= .slice (some ⟨b,0,none⟩) rows.length cap:=by
 cases bn with
 |row _ _ _ _ u xs hu bf hr ck h1 hg=>
  rw[dy]at hu;cases hu;generalize hn:rows.length=n' at bf;cases bf with
  |nil=>exact absurd (WA hn) bu
  |zero a=>exact absurd (WA hn) bu
  |row b n cap=>exact⟨b,cap,rfl⟩
theorem yD {t e k g sz:Nat}{x y:Operand}{ti te:TI}{rows:List (List PV)}{kd:IntKind}{n:Int}(ho:o.op= .indexAddr t x y)(ht:aI X.P t=some ti)(he':ti.elem=some e)(eP:aI X.P e=some te)(ck:te.size=sz)
 (hx:ev s x= .own k g) (hk:s.heap k= .row e sz g rows) (hy:ev s y= .d (.v (.int kd n))) (hn:0≤n) (hlt:n.toNat < rows.length):bj X ops s o {pv:= .rp k g sz n.toNat 0,touch:=[k]}:=
 az hd fun s' he fj a w c hc=>by
  have e1:=bo hc x;rw[he x (by simp[ho,Op.operands]),hx]at e1;have e2:=cw hc ((he y (by simp[ho,Op.operands])).trans hy);have bn:=hc.chunk k;rw[fj k (by simp),hk]at bn;generalize hu:a.eval x=u at e1;obtain⟨i,d,z,tk⟩:=fk ht;obtain⟨ie,de,ze,tke⟩:=fk eP;have ib:d= .slice e:=by
   have:=tk.elem;rw[he']at this;cases d<;>simp[eu]at this;rw[this]
  subst ib;cases e1 with
  |own _ _ _ dy h1=>
   obtain⟨gb,cap,rfl⟩:=j4 bn dy (fun e=>by rw[e]at hlt;simp at hlt);have pG:0≤n∧n < (rows.length:Int):=⟨hn,by omega⟩;refine⟨.pointer (some ⟨gb,n.toNat*sz+0,none⟩),?_,.rp k g sz _ _ gb _ cap dy⟩;simp[execOp,ho,hu,e2,Instr.indexAt,asIntOf,run_underlying tk.und,pG,sizeOf,typeInfo,tke.info,tke.size,ck,Addr.add_lit]
omit hd in
theorem yE {sz i:Nat}{rows:List (List PV)}{row:List PV}{c:Cx}{w:World}{xs:List Value}(h:aZ c w rows.flatten xs)(ck:∀r∈rows,r.length=sz)(bu:rows[i]? =some row)(hl:xs.length=rows.length*sz):aZ c w row ((xs.drop (i*sz)).take sz):=by
 have hi:i < rows.length:=(V3.1 bu).1;have wP:row.length=sz:=ck row (V0 bu);have xZ:(i+1)*sz≤rows.length*sz:=WX sz hi;rw[Xf]at xZ;refine⟨by rw[V2,Wt];omega,fun j d x hj hx=>?_⟩;obtain⟨hlt,hx⟩:=dE hx;exact h.2 _ d x (by rw[bM ck i j hlt,bu];exact hj) hx
theorem vJ {t k g sz i j E:Nat}{x:Operand}{ti:TI}{rows:List (List PV)}{row:List PV}{p:PV}(ho:o.op= .load t x)(ht:aI X.P t=some ti)(hx:ev s x= .rp k g sz i j)(hk:s.heap k= .row E sz g rows)(bu:rows[i]? =some row)(ck:j+ti.size≤sz)
 (hp:(ti.agg=true∧p=pU ((row.drop j).take ti.size))∨(ti.agg=false∧ti.size=1∧row[j]? =some p)):bj X ops s o {pv:=p,touch:=[k]}:=
 az hd fun s' he fj a w c hc=>by
  have e1:=bo hc x;rw[he x (by simp[ho,Op.operands]),hx]at e1;have bn:=hc.chunk k;rw[fj k (by simp),hk]at bn;generalize hu:a.eval x=u at e1;cases e1 with
  |rp _ _ _ _ _ b n cap hb=>
   obtain⟨cur,xs,q1,q2,q3,q4,q5,q6,q7,q8,-⟩:=di bn hb (fun e=>by rw[e]at bu;cases bu);have hi:i < rows.length:=(V3.1 bu).1;have wP:row.length=sz:=q5 row (V0 bu);have xZ:(i+1)*sz≤rows.length*sz:=WX sz hi;rw[Xf]at xZ;have lH:=yE q2 q5 bu q3;generalize AX:(xs.drop (i*sz)).take sz=ys at lH;have pI:ys.length=sz:=by rw[←lH.1,wP]
   have bE:∀j' v,ys[j']? =some v→cur[i*sz+j']? =some v:=by
    intro j' v hj';rw[←AX]at hj';obtain⟨hlt,hj'⟩:=dE hj';rw[q4 _ (by omega),hj']
   have bG:=kM ht w b (i*sz+j) ((ys.drop j).take ti.size) (by rw[V2,Wt];omega) (fun j' v hj'=>by
    have:=bE _ v (dE hj').2;simp only[Xl,q1];rw[XI,this];simp)
   rcases hp with⟨nd,rfl⟩|⟨nd,vi,hp⟩
   ·refine⟨.agg ((ys.drop j).take ti.size).toArray,?_,oS (lH.part j ti.size) (fun d hd=>q6 row (V0 bu) d (WL (WN hd)))⟩;have:=bG (fun h=>by rw[nd]at h;cases h);rw[nd,if_pos rfl]at this;simp only[execOp,ho,hu];rw[Sem.run_bind,this];rfl
   ·obtain⟨v,hv⟩:∃v,ys[j]? =some v:=⟨ys[j]'(by omega),VY _⟩;have da:(ys.drop j).take ti.size=[v]:=by
     rw[vi,Xv (by omega)];simp only[Yd,XH];rw[VY (by omega)]at hv;simpa using hv
    refine⟨v,?_,lH.2 j p v hp hv⟩;have:=bG (fun _=>⟨v,da⟩);rw[nd,da]at this;simp only[execOp,ho,hu];rw[Sem.run_bind,this];rfl
theorem Ez {t k g sz E:Nat}{x:Operand}{e:Nat}{ti:TI}{rows:List (List PV)}(ho:o.op= .call {callee:= .builtin .len,args:=#[x],argTypes:=#[t]})(ht:aI X.P t=some ti)(he':ti.elem=some e)(hx:ev s x= .own k g)(hk:s.heap k= .row E sz g rows):
 bj X ops s o {pv:= .d (.v (.int .i64 rows.length)),touch:=[k]}:=
 az hd fun s' he fj a w c hc=>by
  have e1:=bo hc x;rw[he x (by simp[ho,Op.operands,Call.operands]),hx]at e1;have bn:=hc.chunk k;rw[fj k (by simp),hk]at bn;generalize hu:a.eval x=u at e1;obtain⟨i,dd,z,tk⟩:=fk ht;have ib:dd= .slice e:=by
   have:=tk.elem;rw[he']at this;cases dd<;>simp[eu]at this;rw[this]
  subst ib;cases e1 with
  |own _ _ _ dy h1=>
   cases bn with
   |row _ _ _ _ u' xs hu' bf hr Mg h1 hg=>
    rw[dy]at hu';cases hu';refine⟨.int .i64 rows.length,?_,.d _ _ (.v _)⟩;generalize hn:rows.length=n' at bf;cases bf<;>simp[execOp,ho,hu,resolve,invoke,builtin,Builtin.len_,run_underlying tk.und,goInt]
end
section
variable {X:Cfg}{ops:Array Oper}{s:FS}{o:Oper}(hd:∀d,o.dst=some d→d < X.n)
include hd
theorem G5 {t nk:Nat}{ti:TI}(ho:o.op= .alloc t)(ht:aI X.P t=some ti)(hk:s.heap nk= .none)(rz:¬nk < X.m):bj X ops s o {pv:= .ptr nk 0,eff:=[(nk,.box t (ti.zero.map fun x=> .d (.v x)))],touch:=[nk]}:=
 cT hd (fun kc h=>by simp at h;subst h;simp) fun s' he fj a w c hc=>by
  obtain⟨i,d,z,tk⟩:=fk ht;have hr:aZ c w (ti.zero.map fun x=> .d (.v x)) ti.zero:=by
   have:=mV (c:=c) (Di (M:=c.M) (w:=w) ti.zero);rwa [Yz]at this
  obtain⟨c',h1,h2⟩:=hc.new_box (k:=nk) (by rw[fj nk (by simp)];exact hk) rz t _ ti.zero hr (fun d hd=>by
   obtain⟨x,hx,rfl⟩:=Wp.1 hd;exact tk.one x hx)
  refine⟨_,_,_,?_,.inl rfl,c',h1,h2⟩;have hz:z.cells=ti.zero.toArray:=by rw[←tk.zcells]
  have bG:(Instr.alloc t true (.tuple #[])).run X.P w= .ok (.pointer (some ⟨w.heap.size,0,none⟩)) (w.alloc (.cells ti.zero.toArray t)):=by
   rw[←hz];have gE:∀o:Obj,({w with heap:=w.heap.push o}:World)=w.alloc o:=fun o=>(YX w o);simp[Instr.alloc,zeroValue,typeInfo,tk.info,tk.zero,newVar,newRow,newObj,Sem.run,gE]
  simp only[execOp,ho];rw[Sem.run_bind,bG];rfl
theorem Nt {t nk:Nat}{x:Operand}(ho:o.op= .box t x)(hk:s.heap nk= .none)(rz:¬nk < X.m)(hx:vH (ev s x)=true):bj X ops s o {pv:= .ptr nk 0,eff:=[(nk,.box t (cj (ev s x)))],touch:=[nk]}:=
 cT hd (fun kc h=>by simp at h;subst h;simp) fun s' he fj a w c hc=>by
  have e1:=bo hc x;rw[he x (by simp[ho,Op.operands])]at e1;obtain⟨r1,r2⟩:=iF e1 hx;obtain⟨c',h1,h2⟩:=hc.new_box (k:=nk) (by rw[fj nk (by simp)];exact hk) rz t _ _ r1 r2;refine⟨_,_,_,?_,.inl rfl,c',h1,h2⟩;have bG:(Instr.box t (a.eval x)).run X.P w= .ok (.pointer (some ⟨w.heap.size,0,none⟩)) (w.alloc (.cells (a.eval x).cells.toList.toArray t)):=by
   have gE:∀o:Obj,({w with heap:=w.heap.push o}:World)=w.alloc o:=fun o=>(YX w o);simp[Instr.box,newVar,newRow,newObj,Sem.run,gE]
  simp only[execOp,ho];rw[Sem.run_bind,bG];rfl
theorem G6 {t k off T:Nat}{x y:Operand}{ti:TI}{cells:List PV}(ho:o.op= .store t x y)(qH:o.dst=none)(ht:aI X.P t=some ti)(hx:ev s x= .ptr k off)(hk:s.heap k= .box T cells)(hy:vH (ev s y)=true)
 (hl:(cj (ev s y)).length=ti.size) (ck:off+ti.size≤cells.length):bj X ops s o {pv:= .any,eff:=[(k,.box T (ap cells off (cj (ev s y))))],touch:=[k]}:=
 cT hd (fun kc h=>by simp at h;subst h;simp) fun s' he fj a w c hc=>by
  have e1:=bo hc x;rw[he x (by simp[ho,Op.operands]),hx]at e1;have e2:=bo hc y;rw[he y (by simp[ho,Op.operands])]at e2;obtain⟨r1,r2⟩:=iF e2 hy;have da:=aZ.one r1 r2;have hk':s'.heap k= .box T cells:=by rw[fj k (by simp)];exact hk
  have bn:=hc.chunk k;rw[hk']at bn;generalize hu:a.eval x=u at e1;cases e1 with
  |ptr _ _ b hb=>
   cases bn with
   |box _ _ b' vs hb' hh hr h1=>
    rw[hb]at hb';cases hb';obtain⟨i,d,z,tk⟩:=fk ht;have MV:vs.length=cells.length:=hr.1.symm;have pI:(a.eval y).cells.size=ti.size:=by have:=r1.1;simp at this;omega
    have jV:=j3 (off:=off) hr r1 (by omega);have h3:=hc.set_box hk' hb hh jV (fun d hd=>(iG hd).elim (h1 d) (r2 d));refine⟨.skip,undef,_,?_,.inr ⟨rfl,rfl⟩,c,h3,.any _⟩;have jv:=run_storeCells_at X.P b off T (a.eval y).cells.toList 0 vs.toArray w hh (by simp;omega) da;have vj:(storeCells ⟨b,off,none⟩ (a.eval y).cells.toList).run X.P w= .ok () (w.setRow b (ap vs off (a.eval y).cells.toList).toArray):=by
     rw[jv];simp[ap]
    have bG:(Instr.storeAt t (a.eval x) (a.eval y)).run X.P w= .ok () (w.setRow b (ap vs off (a.eval y).cells.toList).toArray):=by
     rw[hu];simp[Instr.storeAt,Instr.sureAddr,storeVar,sizeOf,typeInfo,tk.info,tk.size,pI,vj]
    simp only[execOp,ho];rw[Sem.run_bind,bG];rfl
omit hd in
theorem b9 {α:Type}{sz:Nat}:∀{rows:List (List α)},(∀r∈rows,r.length=sz)→rows.flatten.length=rows.length*sz
 |[],_=>by simp
 |r::rows,h=>by
  rw[Xe,V9,h r (by simp),b9 (fun r hr=>h r (by simp[hr])),Wc,Xf];omega
omit hd in
theorem sD {M:Nat→Prop}{w:World}{sz:Nat}{rows:List (List D)}{ad:Addr}{n cap:Nat}(hs:0 < sz)(h:RepD M w (.sl sz rows) (.slice (some ad) n cap)):
 ∃xs:List Value,xs.length=n*sz∧n=rows.length∧cS M w rows.flatten xs∧(∀j u,xs[j]? =some u→w.cell? (ad.add j)=some u)∧(∀u∈xs,u.oneCell'=true)∧(∀r∈rows,r.length=sz)∧(∀r∈rows,∀d∈r,d.one=true):=by
 cases h with
 |nil _ _ _ hm=>exact⟨[],by simp,rfl,⟨rfl,fun j d x h=>by simp at h⟩,fun j u h=>by simp at h,fun u h=>by simp at h,fun r h=>by simp at h,fun r h=>by simp at h⟩
 |sl _ _ b off cap f hM hb hc hm hr h1 bE aV=>
  have TF:∀j,j < rows.length*sz→j / sz < rows.length∧j % sz < sz∧j / sz*sz+j % sz=j:=fun j hj=>
   ⟨X2 (by rw[XU];exact hj),Y6 _ hs,by rw[XU];exact Yq j sz⟩
  have CQ:∀j u,((WC (rows.length*sz)).map fun j=>f (j / sz) (j % sz))[j]? =some u→j < rows.length*sz∧u=f (j / sz) (j % sz):=by
   intro j u hj;simp only[V7,Wh]at hj;obtain⟨y,hy,rfl⟩:=hj;have hj':j < rows.length*sz:=by
    rcases Wv j (rows.length*sz)with h|h
    ·exact h
    ·rw[Wm (by simpa using h)]at hy;cases hy
   rw[Yw hj']at hy;cases hy;exact⟨hj',rfl⟩
  have Gn:cS M w rows.flatten ((WC (rows.length*sz)).map fun j=>f (j / sz) (j % sz)):=by
   refine⟨by rw[b9 hr];simp,fun j d x hj hx=>?_⟩;obtain⟨hj',rfl⟩:=CQ j x hx;obtain⟨q1,q2,q3⟩:=TF j hj';rw[←q3,bM hr _ _ q2]at hj;cases bu:rows[j / sz]? with
   |none=>rw[bu]at hj;cases hj
   |some row=>
    rw[bu]at hj;exact aV _ _ row d bu hj
  refine⟨_,by simp,rfl,Gn,fun j u hj=>?_,cS.one Gn (fun d hd=>?_),hr,h1⟩
  ·obtain⟨hj',rfl⟩:=CQ j u hj;obtain⟨q1,q2,q3⟩:=TF j hj';rw[Addr.add_lit];have:=bE _ _ q1 q2;rwa [XI,q3]at this
  ·obtain⟨r,hr',JY⟩:=Yy.1 hd;exact h1 r hr' d JY
omit hd in
theorem w8 {P:Program}{w:World}(base:Nat)(t ty e:TypeId)(i:TypeInfo)(z:Value)(size bytes:Nat)(ht:P.underlying t=some (.slice e))(hi:P.info? e=some i)(hz:i.zero=some z)
 (jM:i.size=size) (ye:i.bytes=bytes) (Gl:z.cells.size=size) (ck:0 < size) (v:Value) (n:Nat) (xs:List Value) (bf:w.ownsRow base e size v n xs)
 (a:Addr) (m c:Nat) (news:List Value) (hl:news.length=m*size) (rA:∀j u,news[j]? =some u→w.cell? (a.add j)=some u) (h1:∀u∈news,u.oneCell'=true)
 (MW:n+m≤maxLen) (oA:(n+m)*bytes≤140737488355328) {v':Value}{w':World} (bG:(Builtin.append_ #[t,t] ty #[v,.slice (some a) m c]).run P w= .ok v' w'):
 v'.ownBlock=v.ownBlock∨∀b,v'.ownBlock=some b→w.heap.size≤b:=by
 subst jM;subst ye;simp only[maxLen]at MW;rcases bf.2 with⟨rfl,rfl⟩|⟨g,cap,cur,rfl,ci,hg,Gq,Gr,mK,MX⟩
 ·by_cases hm:m=0
  ·subst hm;have hn:news=[]:=WA (by simpa using hl);have:(Builtin.append_ #[t,t] ty #[.slice none 0 0,.slice (some a) 0 c]).run P w= .ok (.slice none 0 0) w:=by
    simp[Builtin.append_,run_underlying ht,sizeOf,typeInfo,hi,Builtin.lenOf,Builtin.firstCells,loadCells,loadCellsFrom]
   rw[this]at bG;cases bG;exact .inl rfl
  ·have hr:=run_append_nil (P:=P) w t ty e i z ht hi hz a m c news hl rA (by omega) (by omega) (by have hb:=oA;simp only[Wn]at hb;omega);rw[hr]at bG;cases bG;refine .inr fun b hb=>?_;simp[Value.ownBlock]at hb;omega
 ·by_cases fF:n+m≤cap
  ·have qG:n*i.size+news.length≤cur.size:=by rw[hl,mK,←XV];exact WX _ fF
   have hr:=run_append_room (P:=P) w t ty e i ht hi g n cap cur hg a m c news hl rA h1 fF qG;rw[hr]at bG;cases bG;exact .inl rfl
  ·have holds:∀j u,xs[j]? =some u→w.cell? ((⟨g,0,none⟩:Addr).add j)=some u:=bf.cells (g:=g) rfl;have hr:=run_append_grow (P:=P) w t ty e i z ht hi hz ⟨g,0,none⟩ n cap xs bf.1 holds a m c news hl rA (by omega) (by omega) (growslice_fits (by omega) oA);rw[hr]at bG;cases bG;refine .inr fun b hb=>?_;simp[Value.ownBlock]at hb;omega
omit hd in
theorem OwnV.of_row {w:World}{base E sz:Nat}{v:Value}{n:Nat}{xs:List Value}(h:w.ownsRow base E sz v n xs):OwnV w E sz v n xs:=by
 have hl:=h.1;rcases h.2 with⟨rfl,rfl⟩|⟨g,cap,cur,rfl,ci,hg,Gq,Gr,mK,ht⟩
 ·have:xs=[]:=WA (by simpa using hl);subst this;exact .nil
 ·rcases Yk cap with h0|h0
  ·subst h0;have hn:n=0:=by omega
   subst hn;have:xs=[]:=WA (by simpa using hl);subst this;exact .zero _
  ·exact .row g n cap cur xs h0 hg Gq Gr mK hl ht
omit hd in
theorem cg {a:Addr}{n cap:Nat}(h:0 < cap):cm (.slice (some a) n cap)=some a.block:=by
 obtain⟨cap,rfl⟩:∃c,cap=c+1:=⟨cap - 1,by omega⟩;rfl
omit hd in
theorem oT {P:Program}{w:World}(t ty e:TypeId)(i:TypeInfo)(z:Value)(size bytes:Nat)(ht:P.underlying t=some (.slice e))(hi:P.info? e=some i)(hz:i.zero=some z)
 (jM:i.size=size) (ye:i.bytes=bytes) (Gl:z.cells.size=size) (ck:0 < size) (v:Value) (n:Nat) (xs:List Value) (bf:OwnV w e size v n xs)
 (a:Addr) (m c:Nat) (news:List Value) (hl:news.length=m*size) (rA:∀j u,news[j]? =some u→w.cell? (a.add j)=some u) (h1:∀u∈news,u.oneCell'=true)
 (MW:n+m≤maxLen) (oA:(n+m)*bytes≤140737488355328):
 ∃v' w',(Builtin.append_ #[t,t] ty #[v,.slice (some a) m c]).run P w= .ok v' w'∧OwnV w' e size v' (n+m) (xs++news)∧OneB w w' (cm v)∧(cm v'=cm v∨∀b,cm v'=some b→w.heap.size≤b):=by
 have main:∀u,w.ownsRow 0 e size u n xs→(u= .slice none 0 0∨∃g cap,0 < cap∧u= .slice (some ⟨g,0,none⟩) n cap)→
  ∃v' w',(Builtin.append_ #[t,t] ty #[u,.slice (some a) m c]).run P w= .ok v' w'∧OwnV w' e size v' (n+m) (xs++news)∧OneB w w' (cm u)∧(cm v'=cm u∨∀b,cm v'=some b→w.heap.size≤b):=by
  intro u hu hk;obtain⟨v',w',bG,cV,Ga,-⟩:=run_append_own (P:=P) w 0 t ty e i z size bytes ht hi hz jM ye Gl ck u n xs hu a m c news hl rA h1 MW oA (Wr _);have Gs:=w8 (P:=P) (w:=w) 0 t ty e i z size bytes ht hi hz jM ye Gl ck u n xs hu a m c news hl rA h1 MW oA bG;have hb:u.ownBlock=cm u:=by
   rcases hk with rfl|⟨g,cap,h0,rfl⟩
   ·rfl
   ·rw[cg h0];rfl
  have lx:∀b,cm v'=some b→v'.ownBlock=some b:=by
   intro b hb;cases v' with
   |slice ao k cap=>
    cases ao with
    |none=>cases hb
    |some ad=>cases cap with
     |zero=>cases hb
     |succ cap=>exact hb
   |_=>cases hb
  refine⟨v',w',bG,.of_row cV,⟨Ga.os,Ga.tape,Ga.output,Ga.size,fun b hb' bq=>Ga.block b hb' (fun e=>bq (by rw[←hb];exact e.symm))⟩,?_⟩;rcases Gs with hw|hw
  ·by_cases MR:∃b,cm v'=some b
   ·obtain⟨b,MY⟩:=MR;exact .inl (by rw[←hb,←hw,MY,lx b MY])
   ·exact .inr fun b hb=>absurd ⟨b,hb⟩ MR
  ·exact .inr fun b hb=>hw b (lx b hb)
 cases bf with
 |nil=>exact main _ (YV w 0 e size) (.inl rfl)
 |row g n cap cur xs h0 hh hn hm hs hl ht=>exact main _ ⟨hl,.inr ⟨g,cap,cur,rfl,Wr _,hh,hn,hm,hs,ht⟩⟩ (.inr ⟨g,cap,h0,rfl⟩)
 |zero ad=>
  by_cases hm:m=0
  ·subst hm;have hn:news=[]:=WA (by simpa using hl);subst hn;refine⟨.slice (some ad) 0 0,w,?_,.zero ad,⟨rfl,rfl,rfl,Wa _,fun _ _ _=>rfl⟩,.inl rfl⟩;simp[Builtin.append_,run_underlying ht,sizeOf,typeInfo,hi,Builtin.lenOf,Builtin.firstCells,loadCells,loadCellsFrom,storeCells]
  ·simp only[maxLen]at MW;have x5:=run_append_nil (P:=P) w t ty e i z ht hi hz a m c news (by rw[jM];exact hl) rA (by omega) (by omega) (by rw[ye];simp only[Wn]at oA;omega);have hg:=run_append_grow (P:=P) w t ty e i z ht hi hz ad 0 0 [] (by simp) (fun j v h=>by simp at h) a m c news (by rw[jM];exact hl) rA (by omega) (by omega)
    (by rw[ye];exact growslice_fits (by omega) oA)
   obtain⟨v',w',g1,g2,g3,g4⟩:=main _ (YV w 0 e size) (.inl rfl);rw[x5]at g1;simp only[Wn]at hg;have e2:(#[]++news.toArray++Builtin.zeroCells z.cells (grownCap w m 0 e - m))=news.toArray++Builtin.zeroCells z.cells (grownCap w m 0 e - m):=by simp
   rw[show ([]:List Value).toArray=#[] from rfl,e2,g1]at hg;exact⟨v',w',hg,g2,g3,g4⟩
omit hd in
theorem j5 {P:Program}{w:World}(t ty e:TypeId)(i:TypeInfo)(size:Nat)(ht:P.underlying t=some (.slice e))(hi:P.info? e=some i)(v:Value)(n:Nat)(xs:List Value)(bf:OwnV w e size v n xs)(c:Nat):
 (Builtin.append_ #[t,t] ty #[v,.slice none 0 c]).run P w= .ok v w:=by
 cases bf with
 |nil=>simp[Builtin.append_,run_underlying ht,sizeOf,typeInfo,hi,Builtin.lenOf,Builtin.firstCells]
 |zero a=>simp[Builtin.append_,run_underlying ht,sizeOf,typeInfo,hi,Builtin.lenOf,Builtin.firstCells,storeCells]
 |row g n cap cur xs h0 hh hn hm hs hl jp=>simp[Builtin.append_,run_underlying ht,sizeOf,typeInfo,hi,Builtin.lenOf,Builtin.firstCells,hn,storeCells]
omit hd in
theorem fw {rows:List (List D)}{r:List PV}(h:r∈aa rows):∃q∈rows,r=q.map .d:=by
 obtain⟨q,hq,rfl⟩:=Wp.1 h;exact⟨q,hq,rfl⟩
omit hd in
theorem nq (rows:List (List D)):(aa rows).flatten=rows.flatten.map .d:=by
 simp[aa,List.map_flatten]
inductive SrcP (s:FS) (sz:Nat):PV→List (List PV)→List Nat→Prop
 |sl (news:List (List D)):SrcP s sz (.d (.sl sz news)) (aa news) []
 |nil (ao:Option Addr) (c:Nat):SrcP s sz (.d (.v (.slice ao 0 c))) [] []
 |own (k g E:Nat) (rows:List (List PV)) (h:s.heap k= .row E sz g rows):SrcP s sz (.own k g) rows [k]
 |osl (k g E a n:Nat) (rows:List (List PV)) (h:s.heap k= .row E sz g rows):SrcP s sz (.osl k g sz a n) ((rows.drop a).take n) [k]
omit hd in
theorem io {α:Type}{sz:Nat}:∀{rows:List (List α)},(∀r∈rows,r.length=sz)→∀a,(rows.drop a).flatten=rows.flatten.drop (a*sz)
 |rows,_,0=>by simp
 |[],_,a+1=>by simp
 |r::rows,h,a+1=>by
  have hr:=h r (by simp);rw[List.drop_succ_cons,io (fun r hr=>h r (by simp[hr])) a,Xe,Xf,Zb,YY (l:=r) (by omega),WO,hr];congr 1;omega
omit hd in
theorem fJ {α:Type}{sz:Nat}:∀{rows:List (List α)},(∀r∈rows,r.length=sz)→∀a,(rows.take a).flatten=rows.flatten.take (a*sz)
 |rows,_,0=>by simp
 |[],_,a+1=>by simp
 |r::rows,h,a+1=>by
  have hr:=h r (by simp);rw[Yd,Xe,Xe,fJ (fun r hr=>h r (by simp[hr])) a,Xf,List.take_append,Wj (l:=r) (by omega),hr];congr 2;omega
omit hd in
theorem BC {s s':FS}{sz:Nat}{y:PV}{news:List (List PV)}{ty:List Nat}(h:SrcP s sz y news ty)(x6:0 < sz)(fj:∀k∈ty,s'.heap k=s.heap k){a:Act}{w:World}{c:Cx}(hc:RealC X s' a w c){v:Value}(hr:RepP c w y v):
 (∀r∈news,r.length=sz)∧(∀r∈news,∀d∈r,d.one=true)∧((∃c0,v= .slice none 0 c0∧news=[])∨
  ∃(ad:Addr) (cap:Nat) (ys:List Value),v= .slice (some ad) news.length cap∧ys.length=news.length*sz∧(∀j u,ys[j]? =some u→w.cell? (ad.add j)=some u)∧(∀u∈ys,u.oneCell'=true)∧aZ c w news.flatten ys):=by
 cases h with
 |sl news=>
  have hr:=bA hr;have some_case:∀(ad:Addr) (n cap:Nat),RepD c.M w (.sl sz news) (.slice (some ad) n cap)→_:=fun ad n cap h=>sD x6 h;have rows_ok:(∀r∈news,r.length=sz)→(∀r∈news,∀d∈r,d.one=true)→(∀r∈aa news,r.length=sz)∧(∀r∈aa news,∀d∈r,d.one=true):=fun g1 g2=>by
   refine⟨fun r hr=>?_,fun r hr d hd=>?_⟩
   ·obtain⟨q,hq,rfl⟩:=fw hr;simpa using g1 q hq
   ·obtain⟨q,hq,rfl⟩:=fw hr;obtain⟨x,hx,rfl⟩:=Wp.1 hd;exact g2 q hq x hx
  have bc:(aa news).length=news.length:=by simp[aa]
  cases hr with
  |nil _ ao cap hm=>
   refine⟨fun r h=>by simp[aa]at h,fun r h=>by simp[aa]at h,?_⟩;cases ao with
   |none=>exact .inl ⟨cap,rfl,rfl⟩
   |some ad=>exact .inr ⟨ad,cap,[],rfl,by simp[aa],fun j u h=>by simp at h,fun u h=>by simp at h,⟨rfl,fun j d x h=>by simp[aa]at h⟩⟩
  |sl _ _ b off cap f a1 a2 a3 a4 a5 a6 a7 a8=>
   obtain⟨ys,y1,-,y2,y3,y4,y5,y6⟩:=sD (w:=w) x6 (RepD.sl (M:=c.M) sz news b off cap f a1 a2 a3 a4 a5 a6 a7 a8);obtain⟨q1,q2⟩:=rows_ok y5 y6;exact⟨q1,q2,.inr ⟨⟨b,off,none⟩,cap,ys,by rw[bc],by rw[bc];exact y1,y3,y4,by rw[nq];exact mV y2⟩⟩
 |nil ao c=>
  have hr:=bA hr;cases hr;cases ao with
  |none=>exact⟨fun r h=>by simp at h,fun r h=>by simp at h,.inl ⟨c,rfl,rfl⟩⟩
  |some ad=>exact⟨fun r h=>by simp at h,fun r h=>by simp at h,.inr ⟨ad,c,[],rfl,by simp,fun j u h=>by simp at h,fun u h=>by simp at h,⟨rfl,fun j d x h=>by simp at h⟩⟩⟩
 |own k g E rows hk=>
  have bn:=hc.chunk k;rw[fj k (by simp),hk]at bn;cases hr with
  |own _ _ _ dy _=>
   cases bn with
   |row _ _ _ _ u xs hu bf sg ck h1 hg=>
    rw[dy]at hu;cases hu;refine⟨ck,h1,?_⟩;have da:=aZ.one sg (fun d hd=>by obtain⟨r,hr,hd⟩:=Yy.1 hd;exact h1 r hr d hd);generalize hn:news.length=n' at bf;cases bf with
    |nil=>exact .inl ⟨0,rfl,WA hn⟩
    |zero ad=>exact .inr ⟨ad,0,[],rfl,by simp,fun j u h=>by simp at h,fun u h=>by simp at h,sg⟩
    |row gb _ cap cur _ h0 hh Gq hm hs hl ht=>
     refine .inr ⟨⟨gb,0,none⟩,cap,xs,rfl,hl,fun j u hj=>?_,da,sg⟩;rw[Addr.add_lit];have hlt:j < n'*sz:=by rw[←hl];exact(V3.1 hj).1
     rw[←ht,Wo hlt,WB]at hj;simp[Xl,hh,hj]
 |osl k g E st m rows hk=>
  have bn:=hc.chunk k;rw[fj k (by simp),hk]at bn;cases hr with
  |osl _ _ _ _ _ b o N cap dy hn MZ ho=>
   cases bn with
   |row _ _ _ _ u xs hu bf sg ck h1 hg=>
    rw[dy]at hu;cases hu;have da:=aZ.one sg (fun d hd=>by obtain⟨r,hr,hd⟩:=Yy.1 hd;exact h1 r hr d hd);refine⟨fun r hr=>ck r (WL (WN hr)),fun r hr=>h1 r (WL (WN hr)),.inr ⟨⟨b,o,none⟩,cap - st,(xs.drop (st*sz)).take (m*sz),?_⟩⟩;have hN:N=rows.length:=by
     have:=bf;generalize rows.length=n' at this;cases this<;>rfl
    have Pp:((rows.drop st).take m).length=m:=by rw[V2,Wt];omega
    have Mc:=bf.len;have OF:(st+m)*sz≤rows.length*sz:=WX sz (by omega);rw[XV]at OF;refine⟨by rw[Pp],by rw[Pp,V2,Wt];omega,fun j u hj=>?_,fun u hu=>da u (WL (WN hu)),?_⟩
    ·have hlt:j < m*sz:=by
      have:=(V3.1 hj).1;rw[V2]at this;omega
     rw[Wo hlt,WU]at hj;have hm0:0 < m:=by
      rcases Yk m with h|h
      ·subst h;simp at hlt
      ·exact h
     rw[Addr.add_lit,ho (by omega)];generalize Sc:rows.length=n' at bf;cases bf with
     |zero=>simp at Sc;omega
     |row _ _ _ cur _ h0 hh Gq hm hs hl ht=>
      rw[←ht,Wo (by rw[Sc]at OF;omega),WB]at hj;simp[Xl,hh,hj]
    ·rw[fJ (fun r hr=>ck r (WL hr)),io ck];exact sg.part _ _
omit hd in
theorem pV {c:Cx}{w:World}{ds es:List PV}{vs us:List Value}(h:aZ c w ds vs)(g:aZ c w es us):aZ c w (ds++es) (vs++us):=by
 refine⟨by simp[h.1,g.1],fun j d x hj hx=>?_⟩;by_cases hlt:j < ds.length
 ·rw[WK hlt]at hj;rw[WK (by rw[←h.1];exact hlt)]at hx;exact h.2 j d x hj hx
 ·rw[Wq (by omega)]at hj;rw[Wq (by rw[←h.1];omega),←h.1]at hx;exact g.2 _ d x hj hx
theorem EA {t e k sz g:Nat}{x y:Operand}{ti te:TI}{rows news:List (List PV)}{tyy:List Nat}(ho:o.op= .call {callee:= .builtin .append,args:=#[x,y],argTypes:=#[t,t]})(ht:aI X.P t=some ti)(he':ti.elem=some e)(eP:aI X.P e=some te)
 (ck:te.size=sz) (x6:0 < sz) (hx:ev s x= .own k g) (hk:s.heap k= .row e sz g rows) (hy:SrcP s sz (ev s y) news tyy)
 (bc:rows.length+news.length≤9223372036854775807) (ye:(rows.length+news.length)*te.bytes≤140737488355328):
 bj X ops s o {pv:= .own k (g+1),eff:=[(k,.row e sz (g+1) (rows++news))],touch:=k::tyy}:=
 cT hd (fun kc h=>by simp at h;subst h;simp) fun s' he fj a w c hc=>by
  have e1:=bo hc x;rw[he x (by simp[ho,Op.operands,Call.operands]),hx]at e1;have e2:=bo hc y;rw[he y (by simp[ho,Op.operands,Call.operands])]at e2;have hk':s'.heap k= .row e sz g rows:=by rw[fj k (by simp)];exact hk
  have bn:=hc.chunk k;rw[hk']at bn;obtain⟨i,d,z,tk⟩:=fk ht;obtain⟨ie,de,ze,tke⟩:=fk eP;have ib:d= .slice e:=by
   have:=tk.elem;rw[he']at this;cases d<;>simp[eu]at this;rw[this]
  subst ib;have Gl:ze.cells.size=sz:=by rw[←ck,←tke.zsize,←tke.zcells];simp
  have A0:∀u v,a.eval x=u→a.eval y=v→∀v' w',(Builtin.append_ #[t,t] o.type #[u,v]).run X.P w= .ok v' w'→(execOp a.eval o).run X.P w= .ok (.value v') w':=by
   intro u v hu hv v' w' hr;simp[execOp,ho,resolve,hu,hv,invoke,builtin,hr]
  generalize hu:a.eval x=u at e1;generalize hv:a.eval y=v at e2;obtain⟨n1,n2,pJ⟩:=BC hy x6 (fun k hk=>fj k (XG _ hk)) hc e2;cases e1 with
  |own _ _ _ dy pF=>
   cases bn with
   |row _ _ _ _ u' xs hu' bf hr Mg h1 hg=>
    rw[dy]at hu';cases hu';rcases pJ with⟨c0,rfl,rfl⟩|⟨ad,cap,ys,rfl,y1,y2,y3,y4⟩
    ·have bG:=j5 (P:=X.P) t o.type e ie sz tk.und tke.info u rows.length xs bf c0;obtain⟨c',q1,q2⟩:=hc.set_row (w':=w) (rows':=rows++[]) (v':=u) (xs':=xs) hk' dy ⟨rfl,rfl,rfl,Wa _,fun _ _ _=>rfl⟩ (by rw[WV];exact bf) (.inl rfl) (by rw[WV];exact hr)
      (by rw[WV];exact Mg) (by rw[WV];exact h1)
     exact⟨_,_,_,A0 _ _ hu hv _ _ bG,.inl rfl,c',q1,q2⟩
    ·obtain⟨v',w',bG,cV,Ga,Gs⟩:=oT (P:=X.P) (w:=w) t o.type e ie ze sz te.bytes tk.und tke.info tke.zero (tke.size.trans ck) tke.bytes Gl x6 u rows.length xs bf ad news.length cap ys y1 y2 y3 (by unfold maxLen;exact bc) ye;obtain⟨c',q1,q2⟩:=hc.set_row (w':=w') (rows':=rows++news) (v':=v') (xs':=xs++ys) hk' dy Ga (by rw[V9];exact cV) Gs (by rw[YQ];exact pV hr y4)
      (fun r hr'=>(WJ.1 hr').elim (Mg r) (n1 r)) (fun r hr'=>(WJ.1 hr').elim (h1 r) (n2 r))
     exact⟨_,_,_,A0 _ _ hu hv _ _ bG,.inl rfl,c',q1,q2⟩
theorem w9 {t e nk sz:Nat}{x y:Operand}{ti te:TI}{news:List (List PV)}{tyy:List Nat}(ho:o.op= .call {callee:= .builtin .append,args:=#[x,y],argTypes:=#[t,t]})(ht:aI X.P t=some ti)(he':ti.elem=some e)(eP:aI X.P e=some te)
 (ck:te.size=sz) (x6:0 < sz) (hx:ev s x= .d (.v (.slice none 0 0))) (hk:s.heap nk= .none) (rz:¬nk < X.m) (hy:SrcP s sz (ev s y) news tyy)
 (bc:news.length≤9223372036854775807) (ye:news.length*te.bytes≤140737488355328):
 bj X ops s o {pv:= .own nk 0,eff:=[(nk,.row e sz 0 news)],touch:=nk::tyy}:=
 cT hd (fun kc h=>by simp at h;subst h;simp) fun s' he fj a w c hc=>by
  have e2:=bo hc y;rw[he y (by simp[ho,Op.operands,Call.operands])]at e2;have hk':s'.heap nk= .none:=by rw[fj nk (by simp)];exact hk
  have hu:=cw hc ((he x (by simp[ho,Op.operands,Call.operands])).trans hx);obtain⟨i,d,z,tk⟩:=fk ht;obtain⟨ie,de,ze,tke⟩:=fk eP;have ib:d= .slice e:=by
   have:=tk.elem;rw[he']at this;cases d<;>simp[eu]at this;rw[this]
  subst ib;have Gl:ze.cells.size=sz:=by rw[←ck,←tke.zsize,←tke.zcells];simp
  generalize hv:a.eval y=v at e2;have A0:∀v' w',(Builtin.append_ #[t,t] o.type #[.slice none 0 0,v]).run X.P w= .ok v' w'→(execOp a.eval o).run X.P w= .ok (.value v') w':=by
   intro v' w' hr;simp[execOp,ho,resolve,hu,hv,invoke,builtin,hr]
  obtain⟨n1,n2,pJ⟩:=BC hy x6 (fun k hk=>fj k (XG _ hk)) hc e2;rcases pJ with⟨c0,rfl,rfl⟩|⟨ad,cap,ys,rfl,y1,y2,y3,y4⟩
  ·have bG:=j5 (P:=X.P) (w:=w) t o.type e ie sz tk.und tke.info (.slice none 0 0) 0 [] .nil c0;obtain⟨c',q1,q2⟩:=hc.new_row (w':=w) hk' rz e sz [] (.slice none 0 0) [] (Below.refl _ _) .nil (fun b h=>by cases h) ⟨rfl,fun j d x h=>by simp at h⟩ (by simp) (by simp);exact⟨_,_,_,A0 _ _ bG,.inl rfl,c',q1,q2⟩
  ·obtain⟨v',w',bG,cV,Ga,Gs⟩:=oT (P:=X.P) (w:=w) t o.type e ie ze sz te.bytes tk.und tke.info tke.zero (tke.size.trans ck) tke.bytes Gl x6 (.slice none 0 0) 0 [] .nil ad news.length cap ys y1 y2 y3 (by unfold maxLen;omega) (by rw[Wn];exact ye);have hx':cW w w':=⟨Ga.os,Ga.tape,Ga.output,Ga.size,fun b hb=>Ga.block b hb (fun h=>by cases h)⟩;obtain⟨c',q1,q2⟩:=hc.new_row (w':=w') hk' rz e sz news v' ys hx' (by rw[Wn,WO]at cV;exact cV) (fun b hb=>by
    rcases Gs with h0|h0
    ·rw[h0]at hb;cases hb
    ·exact h0 b hb) y4 n1 n2
   exact⟨_,_,_,A0 _ _ bG,.inl rfl,c',q1,q2⟩
omit hd in
theorem BD {α:Type}{l m xs:List α}{off:Nat}(h:off+xs.length≤l.length):ap (l++m) off xs=ap l off xs++m:=by
 unfold ap;rw[WY (by omega),List.drop_append_of_le_length (by omega)];simp
omit hd in
theorem yF {α:Type}{l m xs:List α}{off:Nat}:ap (l++m) (l.length+off) xs=l++ap m off xs:=by
 unfold ap;rw[List.take_append,Zb];rw[Wj (by omega),YY (by omega)];simp only[WO,WE];rw[show l.length+off - l.length=off by omega,show l.length+off+xs.length - l.length=off+xs.length by omega]
omit hd in
theorem qT {α:Type}{sz:Nat}:∀{rows:List (List α)},(∀r∈rows,r.length=sz)→∀{i j:Nat}{row ps:List α},rows[i]? =some row→j+ps.length≤sz→(rows.set i (ap row j ps)).flatten=ap rows.flatten (i*sz+j) ps
 |[],_,i,j,row,ps,h,_=>by simp at h
 |r::rows,hl,0,j,row,ps,h,hj=>by
  simp at h;subst h;rw[Wi,Xe,Xe,Nat.zero_mul,Wn,BD (by rw[hl r (by simp)];exact hj)]
 |r::rows,hl,i+1,j,row,ps,h,hj=>by
  rw[Wl,Xe,Xe,qT (fun r hr=>hl r (by simp[hr])) (by simpa using h) hj];have hr:=hl r (by simp);rw[show (i+1)*sz+j=r.length+(i*sz+j) by rw[Xf];omega,yF]
omit hd in
theorem sE {α:Type}{l xs:List α}{off n:Nat}(h:off+xs.length≤n)(hn:n≤l.length):(ap l off xs).take n=ap (l.take n) off xs:=by
 apply WS;intro j;rw[fu (by rw[V2];omega)];by_cases hj:j < n
 ·rw[Wo hj,fu (by omega),Wo hj]
 ·rw[Wm (by rw[V2];omega),if_neg (by omega),Wm (by rw[V2];omega)]
theorem BE {t k g sz i j E:Nat}{x y:Operand}{ti:TI}{rows:List (List PV)}{row:List PV}(ho:o.op= .store t x y)(qH:o.dst=none)(ht:aI X.P t=some ti)(hx:ev s x= .rp k g sz i j)(hk:s.heap k= .row E sz g rows)(bu:rows[i]? =some row)(hy:vH (ev s y)=true)
 (hl:(cj (ev s y)).length=ti.size) (ck:j+ti.size≤sz):bj X ops s o {pv:= .any,eff:=[(k,.row E sz g (rows.set i (ap row j (cj (ev s y)))))],touch:=[k]}:=
 cT hd (fun kc h=>by simp at h;subst h;simp) fun s' he fj a w c hc=>by
  have e1:=bo hc x;rw[he x (by simp[ho,Op.operands]),hx]at e1;have e2:=bo hc y;rw[he y (by simp[ho,Op.operands])]at e2;obtain⟨r1,r2⟩:=iF e2 hy;have da:=aZ.one r1 r2;have hk':s'.heap k= .row E sz g rows:=by rw[fj k (by simp)];exact hk
  have bn:=hc.chunk k;rw[hk']at bn;generalize hu:a.eval x=u at e1;cases e1 with
  |rp _ _ _ _ _ b n cap hb=>
   have bq:rows≠[]:=fun e=>by rw[e]at bu;cases bu
   obtain⟨cur,xs,q1,q2,q3,q4,q5,q6,q7,q8,q9,q10,q11⟩:=di bn hb bq;have hi:i < rows.length:=(V3.1 bu).1;have xZ:(i+1)*sz≤rows.length*sz:=WX sz hi;rw[Xf]at xZ;obtain⟨ii,d,z,tk⟩:=fk ht;have pI:(a.eval y).cells.size=ti.size:=by have:=r1.1;simp at this;omega
   have jv:=run_storeCells_at X.P b (i*sz+j) E (a.eval y).cells.toList 0 cur w q1 (by simp;omega) da;have vj:(storeCells ⟨b,i*sz+j,none⟩ (a.eval y).cells.toList).run X.P w= .ok () (w.setRow b (ap cur.toList (i*sz+j) (a.eval y).cells.toList).toArray):=by
    rw[jv];simp[ap]
   have bG:(Instr.storeAt t (a.eval x) (a.eval y)).run X.P w= .ok () (w.setRow b (ap cur.toList (i*sz+j) (a.eval y).cells.toList).toArray):=by
    rw[hu];simp[Instr.storeAt,Instr.sureAddr,storeVar,sizeOf,typeInfo,tk.info,tk.size,pI,vj]
   have A3:0 < cap:=by omega
   have bR:(ap cur.toList (i*sz+j) (a.eval y).cells.toList).length=cur.size:=by rw[aM (by simp;omega)];simp
   have Gk:xs=cur.toList.take (rows.length*sz):=by
    apply WS;intro j';by_cases hj':j' < rows.length*sz
    ·rw[Wo hj'];exact(q4 j' hj').symm.trans (by simp)
    ·rw[Wm (by omega),Wm (by rw[V2];omega)]
   have xY:(ap xs (i*sz+j) (a.eval y).cells.toList).length=rows.length*sz:=by rw[aM (by simp;omega)];exact q3
   have jV:=hc.put_row (w':=w.setRow b (ap cur.toList (i*sz+j) (a.eval y).cells.toList).toArray) (rows':=rows.set i (ap row j (cj (ev s y)))) (xs':=ap xs (i*sz+j) (a.eval y).cells.toList) hk' hb
    ⟨rfl,rfl,rfl,by simp[Yf],fun b' _ Jn=>by
     rw[cg A3]at Jn;simp only[Yf,Xq];rw[if_neg (fun e=>Jn (by rw[e]))]⟩
    (by
     rw[YB,q7];exact .row b rows.length cap _ _ A3 (setRow_heap w b _ _ E _ q1) (by omega) q9 (by simp[bR,q11]) xY (by
      rw[Xs,sE (by simp;omega) (by simp;omega),←Gk]))
    (by rw[qT q5 bu (by omega)];exact j3 q2 r1 (by rw[q2.1];omega))
    (fun r hr=>by
     rcases Xw hr with h|rfl
     ·exact q5 r h
     ·rw[aM (by rw[q5 row (V0 bu)];omega)];exact q5 row (V0 bu))
    (fun r hr d hd=>by
     rcases Xw hr with h|rfl
     ·exact q6 r h d hd
     ·exact(iG hd).elim (q6 row (V0 bu) d) (r2 d))
   refine⟨.skip,undef,_,?_,.inr ⟨rfl,rfl⟩,c,jV,.any _⟩;simp only[execOp,ho];rw[Sem.run_bind,bG];rfl
end
section
variable {X:Cfg}{ops:Array Oper}{s:FS}{o:Oper}(hd:∀d,o.dst=some d→d < X.n)
theorem uI {α:Type}{sz:Nat}{rows news:List (List α)}(h:∀r∈rows,r.length=sz)(hn:∀r∈news,r.length=sz)(i:Nat):(ap rows i news).flatten=ap rows.flatten (i*sz) news.flatten:=by
 unfold ap;rw[YQ,YQ,fJ h,io h,b9 hn,XV]
theorem uJ (z:Array Value)(n:Nat):(Builtin.zeroCells z n).toList=(Wy n z.toList).flatten:=by
 have hl:(Builtin.zeroCells z n).toList.length=n*z.size:=by simp[Builtin.zeroCells]
 have hr:∀r∈Wy n z.toList,r.length=z.size:=fun r hr=>by rw[XY hr];simp
 have Eh:(Wy n z.toList).flatten.length=n*z.size:=by rw[b9 hr];simp
 apply WS;intro i;by_cases hi:i < n*z.size
 ·have h0:0 < z.size:=by
   rcases Yk z.size with h|h
   ·rw[h]at hi;omega
   ·exact h
  have e1:i / z.size < n:=X2 (by rw[XU];exact hi);have e2:i % z.size < z.size:=Y6 _ h0;have e3:i / z.size*z.size+i % z.size=i:=by rw[XU];exact Yq i z.size
  have e4:=bM hr (i / z.size) (i % z.size) e2;rw[e3,List.getElem?_replicate,if_pos e1]at e4;rw[e4];simp[Builtin.zeroCells,hi,e2]
 ·rw[Wm (by omega),Wm (by omega)]
theorem RealC.write_rows {a:Act}{w:World}{c:Cx}(hc:RealC X s a w c){k E sz g:Nat}{rows:List (List PV)}(hk:s.heap k= .row E sz g rows){b n cap:Nat}(hb:c.ov k g=some (.slice (some ⟨b,0,none⟩) n cap))(bq:rows≠[])
 (i:Nat) (news:List (List PV)) (ys:List Value) (hr:aZ c w news.flatten ys) (hi:i+news.length≤rows.length) (Mh:∀r∈news,r.length=sz) (TG:∀r∈news,∀d∈r,d.one=true):
 ∃w',(storeCells ⟨b,i*sz,none⟩ ys).run X.P w= .ok () w'∧RealC X {s with heap:=bS [(k,.row E sz g (ap rows i news))] s.heap} a w' c:=by
 have bn:=hc.chunk k;rw[hk]at bn;obtain⟨cur,xs,q1,q2,q3,q4,q5,q6,q7,q8,q9,q10,q11⟩:=di bn hb bq;have da:=aZ.one hr (fun d hd=>by obtain⟨r,hr,hd⟩:=Yy.1 hd;exact TG r hr d hd);have pI:ys.length=news.length*sz:=by rw[←hr.1,b9 Mh]
 have xZ:(i+news.length)*sz≤rows.length*sz:=WX sz hi;rw[XV]at xZ;have jv:=run_storeCells_at X.P b (i*sz) E ys 0 cur w q1 (by simp;omega) da;have vj:(storeCells ⟨b,i*sz,none⟩ ys).run X.P w= .ok () (w.setRow b (ap cur.toList (i*sz) ys).toArray):=by
  rw[jv];simp[ap]
 have A3:0 < cap:=by
  have:0 < rows.length:=XM.2 bq;omega
 have bR:(ap cur.toList (i*sz) ys).length=cur.size:=by rw[aM (by simp;omega)];simp
 have Gk:xs=cur.toList.take (rows.length*sz):=by
  apply WS;intro j';by_cases hj':j' < rows.length*sz
  ·rw[Wo hj'];exact(q4 j' hj').symm.trans (by simp)
  ·rw[Wm (by omega),Wm (by rw[V2];omega)]
 have xY:(ap xs (i*sz) ys).length=rows.length*sz:=by rw[aM (by omega)];exact q3
 refine⟨_,vj,hc.put_row (rows':=ap rows i news) (xs':=ap xs (i*sz) ys) hk hb ⟨rfl,rfl,rfl,by simp[Yf],fun b' _ Jn=>by
  rw[cg A3]at Jn;simp only[Yf,Xq];rw[if_neg (fun e=>Jn (by rw[e]))]⟩ ?_ ?_ ?_ ?_⟩
 ·rw[aM hi,q7];exact .row b rows.length cap _ _ A3 (setRow_heap w b _ _ E _ q1) (by omega) q9 (by simp[bR,q11]) xY (by
   rw[Xs,sE (by omega) (by simp;omega),←Gk])
 ·rw[uI q5 Mh];exact j3 q2 hr (by rw[q2.1,b9 Mh];omega)
 ·exact fun r hr=>(iG hr).elim (q5 r) (Mh r)
 ·exact fun r hr=>(iG hr).elim (q6 r) (TG r)
include hd
theorem xa {t e k sz g n:Nat}{x y:Operand}{ti te:TI}{rows news:List (List PV)}{tyy:List Nat}(ho:o.op= .call {callee:= .builtin .append,args:=#[x,y],argTypes:=#[t,t]})(ht:aI X.P t=some ti)(he':ti.elem=some e)(eP:aI X.P e=some te)
 (ck:te.size=sz) (x6:0 < sz) (hx:ev s x= .osl k g sz 0 n) (hk:s.heap k= .row e sz g rows) (bq:rows≠[]) (hy:SrcP s sz (ev s y) news tyy) (g7:n+news.length≤rows.length):
 bj X ops s o {pv:= .osl k g sz 0 (n+news.length),eff:=[(k,.row e sz g (ap rows n news))],touch:=k::tyy}:=
 cT hd (fun kc h=>by simp at h;subst h;simp) fun s' he fj a w c hc=>by
  have e1:=bo hc x;rw[he x (by simp[ho,Op.operands,Call.operands]),hx]at e1;have e2:=bo hc y;rw[he y (by simp[ho,Op.operands,Call.operands])]at e2;have hk':s'.heap k= .row e sz g rows:=by rw[fj k (by simp)];exact hk
  obtain⟨i,d,z,tk⟩:=fk ht;obtain⟨ie,de,ze,tke⟩:=fk eP;have ib:d= .slice e:=by
   have:=tk.elem;rw[he']at this;cases d<;>simp[eu]at this;rw[this]
  subst ib;generalize hu:a.eval x=u at e1;generalize hv:a.eval y=v at e2;obtain⟨n1,n2,pJ⟩:=BC hy x6 (fun k hk=>fj k (XG _ hk)) hc e2;cases e1 with
  |osl _ _ _ _ _ b oo N cap dy hn MZ Jo=>
   have wP:0 < rows.length:=XM.2 bq;have bn:=hc.chunk k;rw[hk']at bn;obtain⟨cur,xs,q1,q2,q3,q4,q5,q6,q7,q8,q9,q10,q11⟩:=di bn dy bq;obtain rfl:oo=0:=by rw[Jo (by omega)];simp
   rcases pJ with⟨c0,rfl,rfl⟩|⟨ad,cap',ys,rfl,pI,bE,da,sg⟩
   ·obtain⟨w',jv,kE⟩:=hc.write_rows hk' dy bq n [] [] ⟨rfl,fun j d x h=>by simp at h⟩ (by simpa using g7) (fun r h=>by simp at h) (fun r h=>by simp at h);have hw:w'=w:=by simpa[storeCells]using jv.symm
    subst hw;refine⟨_,.slice (some ⟨b,0,none⟩) n (cap - 0),w',?_,.inl rfl,c,kE,?_⟩
    ·simp[execOp,ho,resolve,hu,hv,invoke,builtin,Builtin.append_,run_underlying tk.und,sizeOf,typeInfo,tke.info,Builtin.lenOf,Builtin.firstCells,storeCells,(by omega:n≤cap)]
    ·exact .osl k g sz 0 n b 0 N cap dy (by omega) MZ (fun _=>by simp)
   ·obtain⟨w',jv,kE⟩:=hc.write_rows hk' dy bq n news ys sg g7 n1 n2;have Ql:=run_firstCells_some (P:=X.P) w sz news.length ad news.length cap' ys pI bE;refine⟨_,.slice (some ⟨b,0,none⟩) (n+news.length) (cap - 0),w',?_,.inl rfl,c,kE,?_⟩
    ·have fF:n+news.length≤cap:=by omega
     have Qm:∀ty,(Builtin.append_ #[t,t] ty #[.slice (some ⟨b,0,none⟩) n (cap - 0),.slice (some ad) news.length cap']).run X.P w= .ok (.slice (some ⟨b,0,none⟩) (n+news.length) (cap - 0)) w':=by
      intro ty;simp[Builtin.append_,run_underlying tk.und,sizeOf,typeInfo,tke.info,tke.size,ck,Builtin.lenOf,fF,Ql,Addr.add_lit,jv]
     simp only[WZ]at Qm;simp[execOp,ho,resolve,hu,hv,invoke,builtin,Qm]
    ·exact .osl k g sz 0 _ b 0 N cap dy (by omega) MZ (fun _=>by simp)
theorem yG {t e k sz g st n:Nat}{x:Operand}{ti te:TI}{rows:List (List PV)}(ho:o.op= .call {callee:= .builtin .clear,args:=#[x],argTypes:=#[t]})(ht:aI X.P t=some ti)(he':ti.elem=some e)(eP:aI X.P e=some te)
 (ck:te.size=sz) (hx:ev s x= .osl k g sz st n) (hk:s.heap k= .row e sz g rows) (bq:rows≠[]) (g7:st+n≤rows.length):
 bj X ops s o {pv:= .d (.v (.tuple #[])),eff:=[(k,.row e sz g (ap rows st (Wy n (te.zero.map fun x=> .d (.v x)))))],touch:=[k]}:=
 cT hd (fun kc h=>by simp at h;subst h;simp) fun s' he fj a w c hc=>by
  have e1:=bo hc x;rw[he x (by simp[ho,Op.operands,Call.operands]),hx]at e1;have hk':s'.heap k= .row e sz g rows:=by rw[fj k (by simp)];exact hk
  obtain⟨i,d,z,tk⟩:=fk ht;obtain⟨ie,de,ze,tke⟩:=fk eP;have ib:d= .slice e:=by
   have:=tk.elem;rw[he']at this;cases d<;>simp[eu]at this;rw[this]
  subst ib;generalize hu:a.eval x=u at e1;have M1:te.zero.length=sz:=by rw[tke.zsize,ck]
  have lE:∀x∈te.zero,x.oneCell'=true:=tke.one;cases e1 with
  |osl _ _ _ _ _ b oo N cap dy hn MZ Jo=>
   cases n with
   |zero=>
    have jV:ap rows st (Wy 0 (te.zero.map fun x=>PV.d (.v x)))=rows:=by simp[ap]
    refine⟨_,.tuple #[],w,?_,.inl rfl,c,?_,.d _ _ (.v _)⟩
    ·simp[execOp,ho,resolve,hu,invoke,builtin,Builtin.clear_,run_underlying tk.und]
    ·rw[jV];have:({env:=s'.env,heap:=bS [(k,.row e sz g rows)] s'.heap}:FS)=s':=by
      cases s' with
      |mk env heap=>
       simp only[FS.mk.injEq,true_and];funext k';rw[oO];show (if k'=k then _ else heap k')=heap k';split
       ·rename_i e;subst e;exact hk'.symm
       ·rfl
     rw[this];exact hc
   |succ n=>
    have wP:0 < rows.length:=XM.2 bq;obtain rfl:oo=st*sz:=Jo (by omega);obtain⟨w',jv,kE⟩:=hc.write_rows hk' dy bq st (Wy (n+1) (te.zero.map fun x=> .d (.v x))) (Wy (n+1) te.zero).flatten
     ⟨by simp[List.map_replicate],fun j d x hj hx=>by
      have e2:(Wy (n+1) (te.zero.map fun x=>PV.d (.v x))).flatten=(Wy (n+1) te.zero).flatten.map fun x=>PV.d (.v x):=by rw[List.map_flatten,List.map_replicate]
      rw[e2,V7,hx]at hj;cases hj;exact .d _ _ (.v _)⟩
     (by simpa using g7) (fun r hr=>by rw[XY hr];simpa using M1)
     (fun r hr d hd=>by
      rw[XY hr]at hd;obtain⟨x,hx,rfl⟩:=Wp.1 hd;exact lE x hx)
    refine⟨_,.tuple #[],w',?_,.inl rfl,c,kE,.d _ _ (.v _)⟩;have M3:(Builtin.zeroCells ze.cells (n+1)).toList=(Wy (n+1) te.zero).flatten:=by
     rw[←tke.zcells];exact uJ ze.cells (n+1)
    simp[execOp,ho,resolve,hu,invoke,builtin,Builtin.clear_,run_underlying tk.und,zeroValue,typeInfo,tke.info,tke.zero,M3,jv]
def Dj:Option PV→Option Nat
 |none=>some 0
 |some (.d (.v (.int _ n)))=>if 0≤n then some n.toNat else none
 |_=>none
def Dk (len:Nat):Option PV→Option Nat
 |none=>some len
 |some (.d (.v (.int _ n)))=>if 0≤n then some n.toNat else none
 |_=>none
omit hd in
theorem l6 {P:Program}{t e sz:Nat}{ie:TypeInfo}(ht:P.underlying t=some (.slice e))(hi:P.info? e=some ie)(ck:ie.size=sz)(w:World)(a:Option Addr)(len cap:Nat)(lo hi:Option Value)(l h:Nat)
 (jq:(lo=none∧l=0)∨∃k,lo=some (.int k l)) (jN:(hi=none∧h=len)∨∃k,hi=some (.int k h)) (h1:l≤h) (h2:h≤cap):
 (Instr.sliceAt t (.slice a len cap) lo hi none).run P w= .ok (.slice (if cap=l then a else a.map (·.add (l*sz))) (h - l) (cap - l)) w:=by
 have e1:(0:Int)≤(l:Int):=by omega
 have e2:(0:Int)≤(h:Int):=by omega
 have e3:(l:Int)≤(h:Int):=by omega
 have e4:(h:Int)≤(cap:Int):=by omega
 rcases jq with⟨rfl,rfl⟩|⟨k,rfl⟩<;>rcases jN with⟨rfl,rfl⟩|⟨k',rfl⟩<;>
  simp[Instr.sliceAt,Instr.slice,run_underlying ht,Instr.sliceBounds,Instr.sliceBound,asIntOf,sizeOf,typeInfo,hi,ck,e1,e2,e3,e4,h1,h2,Nat.not_lt.2 h1,Nat.not_lt.2 h2,Nat.not_lt.2 (W6 h1 h2),W6 h1 h2]
omit hd in
theorem EB {P:Program}{t e sz:Nat}{ie:TypeInfo}(ht:P.underlying t=some (.slice e))(hi:P.info? e=some ie)(ck:ie.size=sz)(w:World)(a:Option Addr)(len cap:Nat)(k1 k2 k3:IntKind)(l h m:Nat)
 (h1:l≤h) (h2:h≤m) (h3:m≤cap):∃v,(Instr.sliceAt t (.slice a len cap) (some (.int k1 l)) (some (.int k2 h)) (some (.int k3 m))).run P w= .ok v w:=by
 have e1:(0:Int)≤(l:Int):=by omega
 have e2:(0:Int)≤(h:Int):=by omega
 have e3:(l:Int)≤(h:Int):=by omega
 have e4:(h:Int)≤(m:Int):=by omega
 have e5:(0:Int)≤(m:Int):=by omega
 have e6:(m:Int)≤(cap:Int):=by omega
 simp[Instr.sliceAt,Instr.slice,run_underlying ht,Instr.sliceBounds,Instr.sliceBound,asIntOf,sizeOf,typeInfo,hi,ck,e1,e2,e3,e4,e5,e6,h1,h2,h3]
omit hd in
theorem l7 {s':FS}{a:Act}{w:World}{c:Cx}(hc:RealC X s' a w c){lo:Option Operand}{l:Nat}(h:Dj (lo.map (ev s'))=some l):((lo.map a.eval)=none∧l=0)∨∃k,lo.map a.eval=some (.int k l):=by
 cases lo with
 |none=>exact .inl ⟨rfl,by simpa[Dj]using h.symm⟩
 |some x=>
  right;simp only[WQ]at h ⊢;unfold Dj at h;split at h
  ·rename_i e;cases e
  ·rename_i k n e;have:=cw hc (WD.inj e);split at h
   ·rename_i h0;have h:=WD.inj h;exact⟨k,by rw[this,←h,Yx h0]⟩
   ·cases h
  ·cases h
omit hd in
theorem l8 {s':FS}{a:Act}{w:World}{c:Cx}(hc:RealC X s' a w c){lo:Option Operand}{len l:Nat}(h:Dk len (lo.map (ev s'))=some l):((lo.map a.eval)=none∧l=len)∨∃k,lo.map a.eval=some (.int k l):=by
 cases lo with
 |none=>exact .inl ⟨rfl,by simpa[Dk]using h.symm⟩
 |some x=>
  right;simp only[WQ]at h ⊢;unfold Dk at h;split at h
  ·rename_i e;cases e
  ·rename_i k n e;have:=cw hc (WD.inj e);split at h
   ·rename_i h0;have h:=WD.inj h;exact⟨k,by rw[this,←h,Yx h0]⟩
   ·cases h
  ·cases h
omit hd in
theorem sF {s':FS}{lo:Option Operand}(h:∀x,lo=some x→ev s' x=ev s x):lo.map (ev s')=lo.map (ev s):=by
 cases lo with
 |none=>rfl
 |some x=>simp[h x rfl]
theorem EC {t e sz:Nat}{x:Operand}{lo hi:Option Operand}{ti te:TI}{rows:List (List D)}{l h:Nat}(ho:o.op= .slice t x lo hi none)(ht:aI X.P t=some ti)(he':ti.elem=some e)(eP:aI X.P e=some te)(ck:te.size=sz)
 (hx:ev s x= .d (.sl sz rows)) (jq:Dj (lo.map (ev s))=some l) (jN:Dk rows.length (hi.map (ev s))=some h) (h1:l≤h) (h2:h≤rows.length):bj X ops s o {pv:= .d (.sl sz ((rows.take h).drop l))}:=
 az hd fun s' he _ a w c hc=>by
  have e1:=bo hc x;rw[he x (by simp[ho,Op.operands]),hx]at e1;rw[←sF (s:=s) (s':=s') (fun y hy=>he y (by simp[ho,Op.operands,hy]))]at jq jN;have b1:=l7 hc jq;have b2:=l8 hc jN;generalize hu:a.eval x=u at e1;have e1:=bA e1;obtain⟨i,d,z,tk⟩:=fk ht;obtain⟨ie,de,ze,tke⟩:=fk eP;have ib:d= .slice e:=by
   have:=tk.elem;rw[he']at this;cases d<;>simp[eu]at this;rw[this]
  subst ib;cases e1 with
  |nil _ ao cap hm=>
   have hr:=l6 tk.und tke.info (tke.size.trans ck) w ao 0 cap _ _ l h b1 b2 h1 (by simp at h2;omega);refine⟨_,by simp only[execOp,ho,hu,Yb];rw[Sem.run_bind,hr];rfl,.d _ _ ?_⟩;simp only[WM,Nat.le_zero]at h2;subst h2;simp only[XH,List.drop_nil];rw[Nat.zero_sub];exact .nil _ _ _ (by omega)
  |sl _ _ b off cap f hM hb gh hm hr h1' bE aV=>
   have hr':=l6 tk.und tke.info (tke.size.trans ck) w (some ⟨b,off,none⟩) rows.length cap _ _ l h b1 b2 h1 (by omega);refine⟨_,by simp only[execOp,ho,hu,Yb];rw[Sem.run_bind,hr'];rfl,.d _ _ ?_⟩;have hl:((rows.take h).drop l).length=h - l:=by rw[Wt,V2];omega
   by_cases Sd:cap=l
   ·obtain rfl:h=l:=by omega
    have:(rows.take h).drop h=[]:=WA (by rw[hl];omega);rw[this,Xy];exact .nil _ _ _ (by omega)
   ·rw[if_neg Sd,←hl];simp only[WQ,Addr.add_lit];have CQ:∀i row,((rows.take h).drop l)[i]? =some row→rows[l+i]? =some row:=by
     intro i row hi;rw[WU]at hi;have:=(V3.1 hi).1;rw[V2]at this;rwa [Wo (by omega)]at hi
    refine .sl sz _ b (off+l*sz) (cap - l) (fun i j=>f (l+i) j) hM hb (by omega) (by omega) (fun r Se=>hr r (WN (WL Se))) (fun r Se=>h1' r (WN (WL Se))) (fun i j hi hj=>?_) (fun i j row d hi hj=>aV _ _ row d (CQ i row hi) hj);have:=bE (l+i) j (by omega) hj;rw[XV]at this;rw[←this];congr 2;omega
theorem yH {t e k g sz:Nat}{x:Operand}{lo hi:Option Operand}{ti te:TI}{rows:List (List PV)}{l h:Nat}(ho:o.op= .slice t x lo hi none)(ht:aI X.P t=some ti)(he':ti.elem=some e)(eP:aI X.P e=some te)(ck:te.size=sz)
 (hx:ev s x= .own k g) (hk:s.heap k= .row e sz g rows) (bq:rows≠[]) (jq:Dj (lo.map (ev s))=some l) (jN:Dk rows.length (hi.map (ev s))=some h) (h1:l≤h) (h2:h≤rows.length):bj X ops s o {pv:= .osl k g sz l (h - l),touch:=[k]}:=
 az hd fun s' he fj a w c hc=>by
  have e1:=bo hc x;rw[he x (by simp[ho,Op.operands]),hx]at e1;rw[←sF (s:=s) (s':=s') (fun y hy=>he y (by simp[ho,Op.operands,hy]))]at jq jN;have b1:=l7 hc jq;have b2:=l8 hc jN;have bn:=hc.chunk k;rw[fj k (by simp),hk]at bn;generalize hu:a.eval x=u at e1;obtain⟨i,d,z,tk⟩:=fk ht;obtain⟨ie,de,ze,tke⟩:=fk eP;have ib:d= .slice e:=by
   have:=tk.elem;rw[he']at this;cases d<;>simp[eu]at this;rw[this]
  subst ib;cases e1 with
  |own _ _ _ dy pF=>
   obtain⟨b,cap,rfl⟩:=j4 bn dy bq;obtain⟨cur,xs,q1,q2,q3,q4,q5,q6,q7,q8,q9,q10,q11⟩:=di bn dy bq;have hr':=l6 tk.und tke.info (tke.size.trans ck) w (some ⟨b,0,none⟩) rows.length cap _ _ l h b1 b2 h1 (by omega);refine⟨_,by simp only[execOp,ho,hu,Yb];rw[Sem.run_bind,hr'];rfl,?_⟩;by_cases gh:cap=l
   ·rw[if_pos gh];exact .osl k g sz l (h - l) b 0 _ cap dy (by omega) q10 (by omega)
   ·rw[if_neg gh];simp only[WQ,Addr.add_lit,Wn];exact .osl k g sz l (h - l) b _ _ cap dy (by omega) q10 (fun _=>rfl)
theorem xb {t e k g sz:Nat}{x:Operand}{lo hi:Option Operand}{ti te:TI}(ho:o.op= .slice t x lo hi none)(ht:aI X.P t=some ti)(he':ti.elem=some e)(eP:aI X.P e=some te)(ck:te.size=sz)
 (hx:ev s x= .own k g) (hk:s.heap k= .row e sz g []) (jq:Dj (lo.map (ev s))=some 0) (jN:Dk 0 (hi.map (ev s))=some 0):bj X ops s o {pv:= .any,touch:=[k]}:=
 az hd fun s' he fj a w c hc=>by
  have e1:=bo hc x;rw[he x (by simp[ho,Op.operands]),hx]at e1;rw[←sF (s:=s) (s':=s') (fun y hy=>he y (by simp[ho,Op.operands,hy]))]at jq jN;have b1:=l7 hc jq;have b2:=l8 hc jN;have bn:=hc.chunk k;rw[fj k (by simp),hk]at bn;generalize hu:a.eval x=u at e1;obtain⟨i,d,z,tk⟩:=fk ht;obtain⟨ie,de,ze,tke⟩:=fk eP;have ib:d= .slice e:=by
   have:=tk.elem;rw[he']at this;cases d<;>simp[eu]at this;rw[this]
  subst ib;cases e1 with
  |own _ _ _ dy pF=>
   cases bn with
   |row _ _ _ _ u' xs hu' bf hr Mg h1 hg=>
    rw[dy]at hu';cases hu';obtain⟨ao,cap,rfl⟩:∃ao cap,u= .slice ao 0 cap:=by
     simp only[WM]at bf;generalize hz:0=z at bf;cases bf with
     |nil=>exact⟨_,_,rfl⟩
     |zero=>exact⟨_,_,rfl⟩
     |row=>subst hz;exact⟨_,_,rfl⟩
    have hr':=l6 tk.und tke.info (tke.size.trans ck) w ao 0 cap _ _ 0 0 b1 b2 (Wa _) (Wr _);exact⟨_,by simp only[execOp,ho,hu,Yb];rw[Sem.run_bind,hr'];rfl,.any _⟩
theorem yI {t e k g sz st n:Nat}{x:Operand}{lo hi:Option Operand}{ti te:TI}{rows:List (List PV)}{l h:Nat}(ho:o.op= .slice t x lo hi none)(ht:aI X.P t=some ti)(he':ti.elem=some e)(eP:aI X.P e=some te)(ck:te.size=sz)
 (hx:ev s x= .osl k g sz st n) (hk:s.heap k= .row e sz g rows) (bq:rows≠[]) (jq:Dj (lo.map (ev s))=some l) (jN:Dk n (hi.map (ev s))=some h) (h1:l≤h) (h2:st+h≤rows.length):bj X ops s o {pv:= .osl k g sz (st+l) (h - l),touch:=[k]}:=
 az hd fun s' he fj a w c hc=>by
  have e1:=bo hc x;rw[he x (by simp[ho,Op.operands]),hx]at e1;rw[←sF (s:=s) (s':=s') (fun y hy=>he y (by simp[ho,Op.operands,hy]))]at jq jN;have b1:=l7 hc jq;have b2:=l8 hc jN;have bn:=hc.chunk k;rw[fj k (by simp),hk]at bn;generalize hu:a.eval x=u at e1;obtain⟨i,d,z,tk⟩:=fk ht;obtain⟨ie,de,ze,tke⟩:=fk eP;have ib:d= .slice e:=by
   have:=tk.elem;rw[he']at this;cases d<;>simp[eu]at this;rw[this]
  subst ib;cases e1 with
  |osl _ _ _ _ _ b oo N cap dy hn MZ Jo=>
   obtain⟨cur,xs,q1,q2,q3,q4,q5,q6,q7,q8,q9,q10,q11⟩:=di bn dy bq;have hr':=l6 tk.und tke.info (tke.size.trans ck) w (some ⟨b,oo,none⟩) n (cap - st) _ _ l h b1 b2 h1 (by omega);refine⟨_,by simp only[execOp,ho,hu,Yb];rw[Sem.run_bind,hr'];rfl,?_⟩;rw[Nat.sub_sub];by_cases gh:cap - st=l
   ·rw[if_pos gh];exact .osl k g sz (st+l) (h - l) b oo _ cap dy (by omega) q10 (by omega)
   ·rw[if_neg gh];simp only[WQ,Addr.add_lit];exact .osl k g sz (st+l) (h - l) b _ _ cap dy (by omega) q10 (fun hlt=>by rw[Jo (by omega),XV])
theorem ED {t e k g sz:Nat}{x y1 y2 y3:Operand}{ti te:TI}{rows:List (List PV)}{k1 k2 k3:IntKind}{n1 n2 n3:Int}(ho:o.op= .slice t x (some y1) (some y2) (some y3))(ht:aI X.P t=some ti)(he':ti.elem=some e)(eP:aI X.P e=some te)(ck:te.size=sz)
 (hx:ev s x= .own k g) (hk:s.heap k= .row e sz g rows) (bq:rows≠[]) (Mi:ev s y1= .d (.v (.int k1 n1))) (UA:ev s y2= .d (.v (.int k2 n2))) (UB:ev s y3= .d (.v (.int k3 n3))) (h0:0≤n1) (h1:n1≤n2) (h2:n2≤n3) (h3:n3≤(rows.length:Int)):
 bj X ops s o {pv:= .any,touch:=[k]}:=
 az hd fun s' he fj a w c hc=>by
  have e1:=bo hc x;rw[he x (by simp[ho,Op.operands]),hx]at e1;have b1:=cw hc ((he y1 (by simp[ho,Op.operands])).trans Mi);have b2:=cw hc ((he y2 (by simp[ho,Op.operands])).trans UA);have b3:=cw hc ((he y3 (by simp[ho,Op.operands])).trans UB);have bn:=hc.chunk k;rw[fj k (by simp),hk]at bn;generalize hu:a.eval x=u at e1;obtain⟨i,d,z,tk⟩:=fk ht;obtain⟨ie,de,ze,tke⟩:=fk eP;have ib:d= .slice e:=by
   have:=tk.elem;rw[he']at this;cases d<;>simp[eu]at this;rw[this]
  subst ib;cases e1 with
  |own _ _ _ dy pF=>
   obtain⟨b,cap,rfl⟩:=j4 bn dy bq;obtain⟨cur,xs,q1,q2,q3,q4,q5,q6,q7,q8,q9,q10,q11⟩:=di bn dy bq;obtain⟨v,hr⟩:=EB tk.und tke.info (tke.size.trans ck) w (some ⟨b,0,none⟩) rows.length cap k1 k2 k3 n1.toNat n2.toNat n3.toNat (by omega) (by omega) (by omega);rw[Yx h0,Yx (by omega),Yx (by omega)]at hr;exact⟨v,by simp only[execOp,ho,hu,WQ,b1,b2,b3];rw[Sem.run_bind,hr];rfl,.any _⟩
theorem EE {t k g sz st n:Nat}{x:Operand}{e:Nat}{ti:TI}(ho:o.op= .call {callee:= .builtin .len,args:=#[x],argTypes:=#[t]})(ht:aI X.P t=some ti)(he':ti.elem=some e)(hx:ev s x= .osl k g sz st n):
 bj X ops s o {pv:= .d (.v (.int .i64 n))}:=
 az hd fun s' he _ a w c hc=>by
  have e1:=bo hc x;rw[he x (by simp[ho,Op.operands,Call.operands]),hx]at e1;generalize hu:a.eval x=u at e1;obtain⟨i,dd,z,tk⟩:=fk ht;have ib:dd= .slice e:=by
   have:=tk.elem;rw[he']at this;cases dd<;>simp[eu]at this;rw[this]
  subst ib;cases e1 with
  |osl=>
   refine⟨.int .i64 n,?_,.d _ _ (.v _)⟩;simp[execOp,ho,hu,resolve,invoke,builtin,Builtin.len_,run_underlying tk.und,goInt]
theorem yJ {t e k g sz st m:Nat}{x y:Operand}{ti te:TI}{kd:IntKind}{n:Int}(ho:o.op= .indexAddr t x y)(ht:aI X.P t=some ti)(he':ti.elem=some e)(eP:aI X.P e=some te)(ck:te.size=sz)
 (hx:ev s x= .osl k g sz st m) (hy:ev s y= .d (.v (.int kd n))) (hn:0≤n) (hlt:n.toNat < m):bj X ops s o {pv:= .rp k g sz (st+n.toNat) 0}:=
 az hd fun s' he _ a w c hc=>by
  have e1:=bo hc x;rw[he x (by simp[ho,Op.operands]),hx]at e1;have e2:=cw hc ((he y (by simp[ho,Op.operands])).trans hy);generalize hu:a.eval x=u at e1;obtain⟨i,d,z,tk⟩:=fk ht;obtain⟨ie,de,ze,tke⟩:=fk eP;have ib:d= .slice e:=by
   have:=tk.elem;rw[he']at this;cases d<;>simp[eu]at this;rw[this]
  subst ib;cases e1 with
  |osl _ _ _ _ _ b oo N cap dy Sc MZ Jo=>
   have pG:0≤n∧n < (m:Int):=⟨hn,by omega⟩;refine⟨.pointer (some ⟨b,(st+n.toNat)*sz+0,none⟩),?_,.rp k g sz _ _ b _ cap dy⟩;rw[XV,←Jo (by omega)];simp[execOp,ho,hu,e2,Instr.indexAt,asIntOf,run_underlying tk.und,pG,sizeOf,typeInfo,tke.info,tke.size,ck,Addr.add_lit]
end
def kN:List (List Int × Int)→List Int→Option Int
 |[],_=>none
 |(k,v)::l,ks=>if k=ks then some v else kN l ks
def ly:List (List Int × Int)→List Int→Int→List (List Int × Int)
 |[],ks,v=>[(ks,v)]
 |(k,x)::l,ks,v=>if k=ks then (ks,v)::l else (k,x)::ly l ks v
theorem eS:∀(l:List (List Int × Int)) (ks:List Int) (v:Int) (ks':List Int),kN (ly l ks v) ks'=if ks=ks' then some v else kN l ks'
 |[],ks,v,ks'=>rfl
 |(k,x)::l,ks,v,ks'=>by
  unfold ly;by_cases h:k=ks
  ·subst h;rw[if_pos rfl];by_cases h':k=ks'
   ·simp[kN,h']
   ·simp[kN,h']
  ·rw[if_neg h];unfold kN;rw[eS l ks v ks'];by_cases h':k=ks'
   ·subst h';simp[Ne.symm h]
   ·simp[h']
theorem Dl {n:Nat}:∀{l:List (List Int × Int)}{ks:List Int}{v:Int},(∀kv∈l,kv.1.length=n)→ks.length=n→∀kv∈ly l ks v,kv.1.length=n
 |[],ks,v,_,hk=>fun kv h=>by simp[ly]at h;rw[h];exact hk
 |(k,x)::l,ks,v,hl,hk=>fun kv h=>by
  unfold ly at h;split at h
  ·rcases WI.1 h with rfl|h
   ·exact hk
   ·exact hl kv (by simp[h])
  ·rcases WI.1 h with rfl|h
   ·exact hl _ (by simp)
   ·exact Dl (fun kv h=>hl kv (by simp[h])) hk kv h
def nO:List (List Int × Int)→List Int→Nat→Option (Nat × Value)
 |[],_,_=>none
 |(k,v)::l,ks,i=>if k=ks then some (i,.int .i64 v)else nO l ks (i+1)
theorem Dm:∀(l:List (List Int × Int)) (ks:List Int) (i:Nat),(nO l ks i).map (·.2)=(kN l ks).map (.int .i64)
 |[],_,_=>rfl
 |(k,v)::l,ks,i=>by
  unfold nO kN;split
  ·rfl
  ·exact Dm l ks (i+1)
theorem vK (s:Bool):∀(l:List (List Int × Int)) (ks:List Int) (v:Int) (i j:Nat) (u:Value),nO l ks i=some (j,u)→i≤j∧(∃e,(aU s l i)[j - i]? =some e∧e.key=f6 s ks)∧(aU s l i).modify (j - i) (fun e=>{e with key:=f6 s ks,val:= .int .i64 v})=aU s (ly l ks v) i∧(ly l ks v).length=l.length
 |[],_,_,_,_,_,h=>by cases h
 |(k,x)::l,ks,v,i,j,u,h=>by
  unfold nO at h;by_cases hk:k=ks
  ·rw[if_pos hk]at h;cases h;subst hk;refine⟨Wa _,⟨_,by rw[Xy];rfl,rfl⟩,?_,?_⟩
   ·rw[Xy];simp[aU,ly]
   ·simp[ly]
  ·rw[if_neg hk]at h;obtain⟨h1,⟨e,h2,h3⟩,h4,h5⟩:=vK s l ks v (i+1) j u h;have hj:j - i=(j - (i+1))+1:=by omega
   refine⟨by omega,⟨e,by rw[hj];simpa[aU]using h2,h3⟩,?_,?_⟩
   ·rw[hj];unfold ly;rw[if_neg hk];simp only[aU,List.modify_succ_cons];rw[h4]
   ·unfold ly;rw[if_neg hk];simp[h5]
theorem vL (s:Bool):∀(l:List (List Int × Int)) (ks:List Int) (v:Int) (i:Nat),nO l ks i=none→aU s (ly l ks v) i=aU s l i++[{key:=f6 s ks,val:= .int .i64 v,born:=i+l.length}]∧(ly l ks v).length=l.length+1
 |[],_,_,_,_=>⟨rfl,rfl⟩
 |(k,x)::l,ks,v,i,h=>by
  unfold nO at h;by_cases hk:k=ks
  ·rw[if_pos hk]at h;cases h
  ·rw[if_neg hk]at h;obtain⟨h1,h2⟩:=vL s l ks v (i+1) h;unfold ly;rw[if_neg hk];simp only[aU,h1,WH,Wc,h2,and_true];rw[show i+1+l.length=i+(l.length+1) by omega]
structure KeyOK (P:Program)(k n:Nat)(s:Bool):Prop where
 chk:∀(em:Bool) (w:World) (xs:List Int),xs.length=n→(Instr.checkKey em 10000 k (f6 s xs)).run P w= .ok () w
 fnd:∀(w:World) (ents:List (List Int × Int)) (xs:List Int),(∀kv∈ents,kv.1.length=n)→xs.length=n→(Instr.findKey k (f6 s xs) (aU s ents 0)).run P w= .ok (nO ents xs 0) w
structure MapOK (P:Program)(t n:Nat)(s:Bool):Prop where
 ex:∃k e i,P.underlying t=some (.map k e)∧P.info? e=some i∧i.zero=some (.int .i64 0)∧KeyOK P k n s
theorem BF {xs:List Int}(h:xs.length=1):∃a,xs=[a]:=by
 match xs,h with
 |[a],_=>exact⟨a,rfl⟩
theorem EF {P:Program}{k:Nat}(hk:P.underlying k=some (.int .i64)):KeyOK P k 1 false:=by
 refine⟨fun em w xs hx=>?_,fun w ents xs hn hx=>?_⟩
 ·obtain⟨a,rfl⟩:=BF hx;exact MapKept.run_checkKey hk (by simp[f6,MapKept.IsKey]) em 9999
 ·obtain⟨a,rfl⟩:=BF hx;refine MapKept.run_findKey hk ?_;have:∀(l:List (List Int × Int)) (i:Nat),(∀kv∈l,kv.1.length=1)→Instr.findNow (.int .i64) (.int .i64 a) (aU false l i) i=some (nO l [a] i):=by
   intro l;induction l with
   |nil=>intro i _;rfl
   |cons kv l ih=>
    intro i hl;obtain⟨k,v⟩:=kv;obtain⟨c,rfl⟩:=BF (hl (k,v) (by simp));have ih:=ih (i+1) (fun kv h=>hl kv (by simp[h]));by_cases h:c=a
    ·subst h;simp[aU,nO,Instr.findNow,Instr.sameNow,f6]
    ·have h':(a==c)=false:=by simpa using fun e=>h e.symm
     simp[aU,nO,Instr.findNow,Instr.sameNow,f6,h,ih];rw[h']
  exact this ents 0 hn
theorem G7 {P:Program}{k n:Nat}(hw:(match P.underlying k with|some (.array _ _)|some (.struct _)=>true|_=>false)=true)(hc:∀(em:Bool) (w:World) (xs:List Int),xs.length=n→(Instr.checkKey em 10000 k (f6 true xs)).run P w= .ok () w)
 (he:∀(w:World) (xs ys:List Int),xs.length=n→ys.length=n→(Op.equal k (f6 true xs) (f6 true ys)).run P w= .ok (xs==ys) w):KeyOK P k n true:=by
 refine⟨hc,fun w ents xs hn hx=>?_⟩;rw[run_findKey_eq w hw];have:∀(l:List (List Int × Int)) (i:Nat),(∀kv∈l,kv.1.length=n)→(Instr.findAsking k (f6 true xs) (aU true l i) i).run P w= .ok (nO l xs i) w:=by
  intro l;induction l with
  |nil=>intro i _;rfl
  |cons kv l ih=>
   intro i hl;obtain⟨k',v⟩:=kv;have ih:=ih (i+1) (fun kv h=>hl kv (by simp[h]));have h0:=he w xs k' hx (hl (k',v) (by simp));simp only[aU,Instr.findAsking];rw[Sem.run_bind,h0];simp only[Result.andThen,nO];by_cases h:k'=xs
   ·subst h;simp
   ·have h':(xs==k')=false:=by simpa using fun e=>h e.symm
    rw[h',if_neg h];exact ih
 exact this ents 0 hn
theorem vM {P:Program}{t k e:Nat}(ht:P.underlying t=some (.map k e))(hk:P.underlying k=some (.int .i64))(hz:(P.info? e).map (·.zero)=some (some (.int .i64 0))):MapOK P t 1 false:=by
 obtain⟨i,hi,hz⟩:=Wh.1 hz;exact⟨k,e,i,ht,hi,hz,EF hk⟩
theorem BG {P:Program}{t n b:Nat}{s:Bool}(hm:MapOK P t n s){w:World}{ents:List (List Int × Int)}(hb:w.heap[b]? =some (.map (aU s ents 0).toArray ents.length))(hn:∀kv∈ents,kv.1.length=n){xs:List Int}(hx:xs.length=n)(ok:Bool):
 (Instr.lookup t (.map (some b)) (f6 s xs) ok).run P w= .ok (if ok then .tuple #[.int .i64 ((kN ents xs).getD 0),.bool (kN ents xs).isSome]else .int .i64 ((kN ents xs).getD 0)) w:=by
 obtain⟨k,e,i,ht,hi,hz,hk⟩:=hm.ex;have hl:=Dm ents xs 0;unfold Instr.lookup;simp only[Sem.run_bind,run_underlying ht,Result.andThen,MapKept.run_getObj_map hb,Sem.run_pure,hk.chk _ _ _ hx,hk.fnd _ _ _ hn hx];cases hf:nO ents xs 0 with
 |none=>
  rw[hf]at hl;have hl':kN ents xs=none:=by
   cases h:kN ents xs with
   |none=>rfl
   |some v=>rw[h]at hl;cases hl
  rw[hl'];simp only[Sem.run_bind,zeroValue,typeInfo,run_program,hi,hz,Result.andThen,Sem.run_pure];cases ok<;>rfl
 |some iv=>
  rw[hf]at hl;cases h:kN ents xs with
  |none=>rw[h]at hl;cases hl
  |some v=>
   rw[h]at hl;simp only[WQ,WD.injEq]at hl;simp only[Sem.run_pure,Result.andThen,hl];cases ok<;>rfl
theorem xc (s:Bool)(xs:List Int):Instr.sameBits 10000 (f6 s xs) (f6 s xs)=true:=by
 cases s with
 |false=>simp[f6,Instr.sameBits]
 |true=>
  have:∀(l:List Int),((l.map (Value.int .i64)).zip (l.map (Value.int .i64))).all (fun(x,y)=>Instr.sameBits 9999 x y)=true:=by
   intro l;induction l with
   |nil=>rfl
   |cons a l ih=>simp only[V1,List.zip_cons_cons,List.all_cons,ih,Xa];simp[Instr.sameBits]
  simp only[f6,if_true,Instr.sameBits,beq_self_eq_true,Xt];exact this xs
theorem uK {P:Program}{t n b:Nat}{s:Bool}(hm:MapOK P t n s){w:World}{ents:List (List Int × Int)}(hb:w.heap[b]? =some (.map (aU s ents 0).toArray ents.length))(hn:∀kv∈ents,kv.1.length=n){xs:List Int}(hx:xs.length=n)(v:Int):
 (Instr.mapUpdate t (.map (some b)) (f6 s xs) (.int .i64 v)).run P w= .ok () {w with heap:=w.heap.setIfInBounds b (.map (aU s (ly ents xs v) 0).toArray (ly ents xs v).length)}:=by
 obtain⟨k,e,i,ht,hi,hz,hk⟩:=hm.ex;unfold Instr.mapUpdate;simp only[Sem.run_bind,run_underlying ht,Result.andThen,MapKept.run_getObj_map hb,hk.chk _ _ _ hx,hk.fnd _ _ _ hn hx];cases hf:nO ents xs 0 with
 |none=>
  obtain⟨h1,h2⟩:=vL s ents xs v 0 hf;simp only[MapKept.run_setObj_map _ hb];rw[h1,h2];simp
 |some iv=>
  obtain⟨j,u⟩:=iv;obtain⟨-,⟨e0,h2,h3⟩,h4,h5⟩:=vK s ents xs v 0 j u hf;rw[WZ]at h2 h4;have h6:(aU s ents 0).toArray[j]? =some e0:=by simpa using h2
  simp only[Sem.run_bind,h6,WQ,Xc,h3,Instr.keyThatStays,xc,if_true,Sem.run_pure,Result.andThen,MapKept.run_setObj_map _ hb];rw[h5,←h4];simp
def BH (s:Bool)(p:PV):Option (List Int):=
 match s,p with
 |false,.d (.v (.int .i64 a))=>some [a]
 |true,.d (.agg ds)=>nj ds
 |_,_=>none
theorem yK {c:Cx}{w:World}{s:Bool}{p:PV}{xs:List Int}{v:Value}(h:BH s p=some xs)(hr:RepP c w p v):v=f6 s xs:=by
 unfold BH at h;split at h
 ·cases h;cases hr with|d _ _ hd=>cases hd;rfl
 ·cases hr with
  |d _ _ hd=>
   cases hd with
   |agg _ vs hl h1 aV=>
    rw[oQ (xs:=xs) ⟨hl,aV⟩ h];simp[f6]
 ·cases h
theorem RealC.new_map {X:Cfg}{s:FS}{a:Act}{w:World}{c:Cx}(h:RealC X s a w c){k:Nat}(hk:s.heap k= .none)(rz:¬k < X.m)(n:Nat)(sB:Bool):
 ∃c',RealC X {s with heap:=bS [(k,.mp n sB [])] s.heap} a (w.alloc (.map #[] 0)) c'∧RepP c' (w.alloc (.map #[] 0)) (.mref k) (.map (some w.heap.size)):=by
 have bn:=h.chunk k;rw[hk]at bn;cases bn with
 |none Eg Qh=>
  have hx:=gp w (.map #[] 0);have cR:(fun k'=>if k'=k then some w.heap.size else c.bl k') k=some w.heap.size:=if_pos rfl;refine⟨{M:=fun b=>c.M b∨b=w.heap.size,bl:=fun k'=>if k'=k then some w.heap.size else c.bl k',ov:=c.ov},?_,.mref k _ cR⟩;have hle:c.le {M:=fun b=>c.M b∨b=w.heap.size,bl:=fun k'=>if k'=k then some w.heap.size else c.bl k',ov:=c.ov}:=
   ⟨fun k' b hb=>by
    have:k'≠k:=fun e=>by subst e;rw[Eg]at hb;cases hb
    show (if k'=k then some w.heap.size else c.bl k')=some b;rw[if_neg this];exact hb,fun _ _ _ h=>h⟩
  refine h.new_chunk hk rz hx hle (fun k' bq=>if_neg bq) (fun _ _=>rfl) (fun b=>?_) (fun b hb=>?_) (fun lM=>?_)
  ·simp only[Cx.block,if_true,WD.injEq];exact⟨fun h=>h.imp id Eq.symm,fun h=>h.imp id Eq.symm⟩
  ·simp only[Cx.block,if_true,WD.injEq]at hb;rw[size_alloc];omega
  ·exact .mp n sB [] w.heap.size cR (by simpa[aU]using gL w (.map #[] 0)) (fun _ h=>by simp at h)
theorem RealC.set_map {X:Cfg}{s:FS}{a:Act}{w:World}{c:Cx}(h:RealC X s a w c){k n b:Nat}{sB:Bool}{ents ents':List (List Int × Int)}(hk:s.heap k= .mp n sB ents)(hb:c.bl k=some b)(hh:w.heap[b]? =some (.map (aU sB ents 0).toArray ents.length))
 (hn:∀kv∈ents',kv.1.length=n):RealC X {s with heap:=bS [(k,.mp n sB ents')] s.heap} a {w with heap:=w.heap.setIfInBounds b (.map (aU sB ents' 0).toArray ents'.length)} c:=by
 have ct:c.block k (s.heap k)=some b:=by rw[hk];exact hb
 have jv:=MapKept.heap_set (o':= .map (aU sB ents' 0).toArray ents'.length) hh;refine h.turn c.le_refl rfl (fun _ _=>rfl) (fun _ _=>rfl) rfl rfl rfl (by simp) (fun b' _ hb'=>jv.2 b' (fun e=>hb' (by rw[e];exact ct))) (fun b'=>?_) (fun b' hb'=>?_) (fun lM=>?_)
 ·show c.M b'↔(c.M b'∧c.block k (s.heap k)≠some b')∨c.bl k=some b';rw[ct,hb];constructor
  ·intro hm;by_cases e:b=b'
   ·exact .inr (by rw[e])
   ·exact .inl ⟨hm,fun h=>e (WD.inj h)⟩
  ·rintro (⟨hm,_⟩|e)
   ·exact hm
   ·exact(h.mu b').2 (.inr ⟨k,by rw[ct];exact e⟩)
 ·have e:c.bl k=some b':=hb';refine⟨.inl (by rw[ct,←hb];exact e),?_⟩;simp only[Array.size_setIfInBounds];exact(h.new k b' (by rw[ct,←hb];exact e)).2
 ·exact .mp n sB ents' b hb jv.1 hn
section
variable {X:Cfg}{ops:Array Oper}{s:FS}{o:Oper}(hd:∀d,o.dst=some d→d < X.n)
include hd
theorem BI {t nk n:Nat}{sB:Bool}(ho:o.op= .makeMap t none)(hk:s.heap nk= .none)(rz:¬nk < X.m):bj X ops s o {pv:= .mref nk,eff:=[(nk,.mp n sB [])],touch:=[nk]}:=
 cT hd (fun kc h=>by simp at h;subst h;simp) fun s' he fj a w c hc=>by
  obtain⟨c',h1,h2⟩:=hc.new_map (k:=nk) (by rw[fj nk (by simp)];exact hk) rz n sB;refine⟨_,_,_,?_,.inl rfl,c',h1,h2⟩;simp only[execOp,ho,Yb];rw[Sem.run_bind,run_makeMap];rfl
theorem EH {t k n:Nat}{sB ok:Bool}{m x:Operand}{ents:List (List Int × Int)}{xs:List Int}(ho:o.op= .lookup t m x ok)(hm:MapOK X.P t n sB)(Qn:ev s m= .mref k)(hk:s.heap k= .mp n sB ents)(hx:BH sB (ev s x)=some xs)(OG:xs.length=n):
 bj X ops s o {pv:=if ok then .d (.tup [.v (.int .i64 ((kN ents xs).getD 0)),.v (.bool (kN ents xs).isSome)])else .d (.v (.int .i64 ((kN ents xs).getD 0))),touch:=[k]}:=
 az hd fun s' he fj a w c hc=>by
  have e1:=bo hc m;rw[he m (by simp[ho,Op.operands]),Qn]at e1;have e2:=bo hc x;rw[he x (by simp[ho,Op.operands])]at e2;have e3:=yK hx e2;have hk':s'.heap k= .mp n sB ents:=by rw[fj k (by simp)];exact hk
  have bn:=hc.chunk k;rw[hk']at bn;generalize hu:a.eval m=u at e1;cases e1 with
  |mref _ b hb=>
   cases bn with
   |mp _ _ _ b' hb' hh hn=>
    rw[hb]at hb';cases hb';have bG:=BG hm hh hn OG ok;refine⟨if ok then .tuple #[.int .i64 ((kN ents xs).getD 0),.bool (kN ents xs).isSome]else .int .i64 ((kN ents xs).getD 0),?_,?_⟩
    ·simp only[execOp,ho,hu,e3];rw[Sem.run_bind,bG];rfl
    ·cases ok with
     |false=>exact .d _ _ (.v _)
     |true=>
      refine .d _ _ (.tup _ [_,_] rfl ?_);intro j d y h1 h2;match j with
      |0=>simp at h1 h2;subst h1;subst h2;exact .v _
      |1=>simp at h1 h2;subst h1;subst h2;exact .v _
      |j+2=>simp at h1
theorem xd {t k n:Nat}{sB:Bool}{m x y:Operand}{ents:List (List Int × Int)}{xs:List Int}{v:Int}(ho:o.op= .mapUpdate t m x y∨o.op= .insert t m x y)(qH:o.dst=none)(hm:MapOK X.P t n sB)(Qn:ev s m= .mref k)(hk:s.heap k= .mp n sB ents)(hx:BH sB (ev s x)=some xs)(OG:xs.length=n)
 (hy:ev s y= .d (.v (.int .i64 v))):bj X ops s o {pv:= .any,eff:=[(k,.mp n sB (ly ents xs v))],touch:=[k]}:=
 cT hd (fun kc h=>by simp at h;subst h;simp) fun s' he fj a w c hc=>by
  have g7:m∈o.op.operands∧x∈o.op.operands∧y∈o.op.operands:=by rcases ho with ho|ho<;>simp[ho,Op.operands]
  have e1:=bo hc m;rw[he m g7.1,Qn]at e1;have e2:=bo hc x;rw[he x g7.2.1]at e2;have e3:=yK hx e2;have e4:=bo hc y;rw[he y g7.2.2,hy]at e4;have hk':s'.heap k= .mp n sB ents:=by rw[fj k (by simp)];exact hk
  have bn:=hc.chunk k;rw[hk']at bn;generalize hu:a.eval m=u at e1;generalize hv:a.eval y=vy at e4;cases e4 with
  |d _ _ e4=>
  cases e4;cases e1 with
  |mref _ b hb=>
   cases bn with
   |mp _ _ _ b' hb' hh hn=>
    rw[hb]at hb';cases hb';have bG:=uK hm hh hn OG v;have h3:=hc.set_map hk' hb hh (Dl (v:=v) hn OG);refine⟨.skip,undef,_,?_,.inr ⟨rfl,rfl⟩,c,h3,.any _⟩;rcases ho with ho|ho
    ·simp only[execOp,ho,hu,hv,e3];rw[Sem.run_bind,bG];rfl
    ·simp only[execOp,ho,hu,hv,e3];rw[Sem.run_bind,bG];rfl
end
def sG (P:Program)(f:Nat):Prop:=∀(args:Array Value) (w:World),(callFunc f args).run P w= .ok (.enter f args) w
def ae (P:Program)(f:Nat)(args:List D)(r:D):Prop:=
 sG P f∧∀(M:Nat→Prop) (w:World) (vs:List Value),(∀b,M b→b < w.heap.size)→uG M w→cS M w args vs→Calls P f vs.toArray w fun e w'=>∃v,e= .returned v∧RepD M w' r v∧cW w w'
def D.isV:D→Bool
 | .v _=>true
 |_=>false
def D.flat:D→Bool
 | .v _=>true
 | .agg l=>l.all D.isV
 | .tup l=>l.all fun d=>match d with| .v _=>true| .agg l=>l.all D.isV|_=>false
 |_=>false
theorem Dn {M M':Nat→Prop}{w w':World}{d:D}{v:Value}(h:RepD M w d v)(hf:d.isV=true):RepD M' w' d v:=by
 cases d<;>simp[D.isV]at hf;cases h;exact .v _
theorem G8 {M M':Nat→Prop}{w w':World}{d:D}{v:Value}(h:RepD M w d v)(hf:d.flat=true):RepD M' w' d v:=by
 cases h with
 |v=>exact .v _
 |agg cells vs hl h1 aV=>
  simp only[D.flat,Wx]at hf;exact .agg cells vs hl h1 fun j d x hj hx=>Dn (aV j d x hj hx) (hf d (V0 hj))
 |tup ds vs hl aV=>
  simp only[D.flat,Wx]at hf;refine .tup ds vs hl fun j d x hj hx=>?_;have h0:=aV j d x hj hx;have h1:=hf d (V0 hj);cases h0 with
  |v=>exact .v _
  |agg cells us hl' h1' mJ=>
   simp only[Wx]at h1;exact .agg cells us hl' h1' fun j d x hj hx=>Dn (mJ j d x hj hx) (h1 d (V0 hj))
  |_=>simp at h1
 |_=>simp[D.flat]at hf
def bW (f:PV→Option D):List PV→Option (List D)
 |[]=>some []
 |p::l=>match f p,bW f l with|some d,some ds=>some (d::ds)|_,_=>none
def cy (f:PV→Option D):List (List PV)→Option (List (List D))
 |[]=>some []
 |r::l=>match bW f r,cy f l with|some d,some ds=>some (d::ds)|_,_=>none
def aO (h:Nat→Chunk):Nat→PV→Option D
 |_,.d x=>some x
 |n+1,.own k g=>match h k with| .row _ sz g' rows=>if g=g' then (cy (aO h n) rows).map (.sl sz)else none|_=>none
 |n+1,.ptr k off=>match h k with| .box _ cells=>(bW (aO h n) (cells.drop off)).map .ept|_=>none
 |n+1,.rp k g sz i j=>match h k with| .row _ sz' g' rows=>if g=g'∧sz=sz' then (match rows[i]? with|some row=>(bW (aO h n) (row.drop j)).map .ept|none=>none)else none|_=>none
 |n+1,.osl k g sz a m=>match h k with| .row _ sz' g' rows=>if g=g'∧sz=sz'∧0 < rows.length then (cy (aO h n) ((rows.drop a).take m)).map (.sl sz)else none|_=>none
 |n+1,.clo g caps=>(bW (aO h n) caps).map (.clo g)
 |n+1,.agg cells=>(bW (aO h n) cells).map .agg
 |n+1,.tup l=>(bW (aO h n) l).map .tup
 |_,_=>none
def gq (f:PV→List Nat):List PV→List Nat
 |[]=>[]
 |p::l=>f p++gq f l
def uL (f:PV→List Nat):List (List PV)→List Nat
 |[]=>[]
 |r::l=>gq f r++uL f l
def cn (h:Nat→Chunk):Nat→PV→List Nat
 |_,.d _=>[]
 |n+1,.own k _=>k::(match h k with| .row _ _ _ rows=>uL (cn h n) rows|_=>[])
 |n+1,.ptr k off=>k::(match h k with| .box _ cells=>gq (cn h n) (cells.drop off)|_=>[])
 |n+1,.rp k _ _ i j=>k::(match h k with| .row _ _ _ rows=>gq (cn h n) (((rows[i]?).getD []).drop j)|_=>[])
 |n+1,.osl k _ _ _ _=>k::(match h k with| .row _ _ _ rows=>uL (cn h n) rows|_=>[])
 |n+1,.clo _ caps=>gq (cn h n) caps
 |n+1,.agg cells=>gq (cn h n) cells
 |n+1,.tup l=>gq (cn h n) l
 |_,_=>[]
theorem kO (h:Nat→Chunk)(n:Nat)(x:D):aO h n (.d x)=some x:=by cases n<;>rfl
theorem G9 (h:Nat→Chunk)(n:Nat)(x:D):cn h n (.d x)=[]:=by cases n<;>rfl
theorem rY (h:Nat→Chunk)(n:Nat):∀(l:List D),bW (aO h n) (l.map .d)=some l
 |[]=>rfl
 |x::l=>by simp only[V1,bW,kO,rY h n l]
theorem xe (h:Nat→Chunk)(n:Nat):∀(l:List D),gq (cn h n) (l.map .d)=[]
 |[]=>rfl
 |x::l=>by simp only[V1,gq,G9,xe h n l,WV]
theorem dF (h:Nat→Chunk)(n:Nat):∀(l:List (List D)),cy (aO h n) (aa l)=some l
 |[]=>rfl
 |x::l=>by
  have:=dF h n l;simp only[aa]at this;simp only[aa,V1,cy,rY,this]
theorem l9 (h:Nat→Chunk)(n:Nat):∀(l:List (List D)),uL (cn h n) (aa l)=[]
 |[]=>rfl
 |x::l=>by
  have:=l9 h n l;simp only[aa]at this;simp only[aa,V1,uL,xe,this,WV]
theorem d8 {f:PV→List Nat}:∀{l:List PV}{p:PV},p∈l→∀k∈f p,k∈gq f l
 |q::l,p,h,k,hk=>by
  rcases WI.1 h with rfl|h
  ·exact YH _ hk
  ·exact List.mem_append_right _ (d8 h k hk)
theorem ma {f:PV→List Nat}:∀{l:List (List PV)}{r:List PV}{p:PV},r∈l→p∈r→∀k∈f p,k∈uL f l
 |q::l,r,p,h,hp,k,hk=>by
  rcases WI.1 h with rfl|h
  ·exact YH _ (d8 hp k hk)
  ·exact List.mem_append_right _ (ma h hp k hk)
theorem ew {f f':PV→Option D}:∀{l:List PV},(∀p∈l,f' p=f p)→bW f' l=bW f l
 |[],_=>rfl
 |p::l,e=>by simp only[bW,e p (by simp),ew (l:=l) fun q hq=>e q (by simp[hq])]
theorem nP {f f':PV→Option D}:∀{l:List (List PV)},(∀r∈l,∀p∈r,f' p=f p)→cy f' l=cy f l
 |[],_=>rfl
 |r::l,e=>by simp only[cy,ew (e r (by simp)),nP (l:=l) fun q hq=>e q (by simp[hq])]
theorem gr {f f':PV→List Nat}:∀{l:List PV},(∀p∈l,f' p=f p)→gq f' l=gq f l
 |[],_=>rfl
 |p::l,e=>by simp only[gq,e p (by simp),gr (l:=l) fun q hq=>e q (by simp[hq])]
theorem pW {f f':PV→List Nat}:∀{l:List (List PV)},(∀r∈l,∀p∈r,f' p=f p)→uL f' l=uL f l
 |[],_=>rfl
 |r::l,e=>by simp only[uL,gr (e r (by simp)),pW (l:=l) fun q hq=>e q (by simp[hq])]
theorem dY {h h':Nat→Chunk}:∀(n:Nat) (p:PV),(∀k∈cn h n p,h' k=h k)→aO h' n p=aO h n p∧cn h' n p=cn h n p
 |0,p,_=>by cases p<;>exact⟨rfl,rfl⟩
 |n+1,p,e=>by
  cases p with
  |own k g=>
   have hk:=e k (by simp[cn]);simp only[aO,cn,hk];cases hb:h k with
   |row E sz g' rows=>
    have key:∀r∈rows,∀q∈r,aO h' n q=aO h n q∧cn h' n q=cn h n q:=fun r hr q hq=>dY n q fun k' hk'=>e k' (by
     simp only[cn,hb,WI];exact .inr (ma hr hq k' hk'))
    simp only;rw[nP fun r hr q hq=>(key r hr q hq).1,pW fun r hr q hq=>(key r hr q hq).2];exact⟨rfl,rfl⟩
   |_=>exact⟨rfl,rfl⟩
  |ptr k off=>
   have hk:=e k (by simp[cn]);simp only[aO,cn,hk];cases hb:h k with
   |box T cells=>
    have key:∀q∈cells.drop off,aO h' n q=aO h n q∧cn h' n q=cn h n q:=fun q hq=>dY n q fun k' hk'=>e k' (by
     simp only[cn,hb,WI];exact .inr (d8 hq k' hk'))
    simp only;rw[ew fun q hq=>(key q hq).1,gr fun q hq=>(key q hq).2];exact⟨rfl,rfl⟩
   |_=>exact⟨rfl,rfl⟩
  |rp k g sz i j=>
   have hk:=e k (by simp[cn]);simp only[aO,cn,hk];cases hb:h k with
   |row E sz' g' rows=>
    have key:∀q∈((rows[i]?).getD []).drop j,aO h' n q=aO h n q∧cn h' n q=cn h n q:=fun q hq=>dY n q fun k' hk'=>e k' (by
     simp only[cn,hb,WI];exact .inr (d8 hq k' hk'))
    simp only;refine⟨?_,by rw[gr fun q hq=>(key q hq).2]⟩;cases Rz:rows[i]? with
    |none=>rfl
    |some row=>
     rw[Rz]at key;simp only[Xc]at key;simp only;rw[ew fun q hq=>(key q hq).1]
   |_=>exact⟨rfl,rfl⟩
  |osl k g sz a m=>
   have hk:=e k (by simp[cn]);simp only[aO,cn,hk];cases hb:h k with
   |row E sz g' rows=>
    have key:∀r∈rows,∀q∈r,aO h' n q=aO h n q∧cn h' n q=cn h n q:=fun r hr q hq=>dY n q fun k' hk'=>e k' (by
     simp only[cn,hb,WI];exact .inr (ma hr hq k' hk'))
    simp only;rw[nP (l:=(rows.drop a).take m) fun r hr q hq=>(key r (WL (WN hr)) q hq).1,pW fun r hr q hq=>(key r hr q hq).2];exact⟨rfl,rfl⟩
   |_=>exact⟨rfl,rfl⟩
  |clo g caps=>
   have key:∀q∈caps,aO h' n q=aO h n q∧cn h' n q=cn h n q:=fun q hq=>dY n q fun k' hk'=>e k' (d8 hq k' hk');simp only[aO,cn];rw[ew fun q hq=>(key q hq).1,gr fun q hq=>(key q hq).2];exact⟨rfl,rfl⟩
  |agg caps=>
   have key:∀q∈caps,aO h' n q=aO h n q∧cn h' n q=cn h n q:=fun q hq=>dY n q fun k' hk'=>e k' (d8 hq k' hk');simp only[aO,cn];rw[ew fun q hq=>(key q hq).1,gr fun q hq=>(key q hq).2];exact⟨rfl,rfl⟩
  |tup caps=>
   have key:∀q∈caps,aO h' n q=aO h n q∧cn h' n q=cn h n q:=fun q hq=>dY n q fun k' hk'=>e k' (d8 hq k' hk');simp only[aO,cn];rw[ew fun q hq=>(key q hq).1,gr fun q hq=>(key q hq).2];exact⟨rfl,rfl⟩
  |_=>exact⟨rfl,rfl⟩
def jz (c:Cx)(h:Nat→Chunk)(T:List Nat)(b:Nat):Prop:=c.M b∧∀k∈T,c.block k (h k)≠some b
theorem pX (c:Cx)(h:Nat→Chunk)(T:List Nat)(w:World):Keep c.M w (jz c h T) w:=⟨Wa _,fun _ _ _=>rfl,fun _ _ h=>h.1⟩
theorem dU {f:PV→Option D}:∀{l:List PV}{ds:List D},bW f l=some ds→l.length=ds.length∧∀(j:Nat) (d:D),ds[j]? =some d→∃p,l[j]? =some p∧f p=some d
 |[],ds,h=>by simp[bW]at h;subst h;simp
 |p::l,ds,h=>by
  simp only[bW]at h;split at h
  ·rename_i d es h1 h2;cases h;obtain⟨q1,q2⟩:=dU h2;refine⟨by simp[q1],fun j e hj=>?_⟩;cases j with
   |zero=>simp at hj;subst hj;exact⟨p,rfl,h1⟩
   |succ j=>simpa using q2 j e (by simpa using hj)
  ·cases h
theorem sH {f:PV→Option D}:∀{l:List (List PV)}{ds:List (List D)},cy f l=some ds→l.length=ds.length∧∀(j:Nat) (d:List D),ds[j]? =some d→∃p,l[j]? =some p∧bW f p=some d
 |[],ds,h=>by simp[cy]at h;subst h;simp
 |p::l,ds,h=>by
  simp only[cy]at h;split at h
  ·rename_i d es h1 h2;cases h;obtain⟨q1,q2⟩:=sH h2;refine⟨by simp[q1],fun j e hj=>?_⟩;cases j with
   |zero=>simp at hj;subst hj;exact⟨p,rfl,h1⟩
   |succ j=>simpa using q2 j e (by simpa using hj)
  ·cases h
theorem j6 {h:Nat→Chunk}{n:Nat}{p:PV}{d:D}(hv:aO h n p=some d)(h1:p.one=true):d.one=true:=by
 cases p with
 |d x=>rw[kO]at hv;cases hv;exact h1
 |agg=>simp[PV.one]at h1
 |tup=>simp[PV.one]at h1
 |any=>simp[PV.one]at h1
 |own k g=>
  cases n with
  |zero=>cases hv
  |succ n=>
   simp only[aO]at hv;split at hv
   ·split at hv
    ·simp only[Wh]at hv;obtain⟨_,_,rfl⟩:=hv;rfl
    ·cases hv
   ·cases hv
 |ptr k off=>
  cases n with
  |zero=>cases hv
  |succ n=>
   simp only[aO]at hv;split at hv
   ·simp only[Wh]at hv;obtain⟨_,_,rfl⟩:=hv;rfl
   ·cases hv
 |rp k g sz i j=>
  cases n with
  |zero=>cases hv
  |succ n=>
   simp only[aO]at hv;split at hv
   ·split at hv
    ·split at hv
     ·simp only[Wh]at hv;obtain⟨_,_,rfl⟩:=hv;rfl
     ·cases hv
    ·cases hv
   ·cases hv
 |clo g caps=>
  cases n with
  |zero=>cases hv
  |succ n=>simp only[aO,Wh]at hv;obtain⟨_,_,rfl⟩:=hv;rfl
 |osl k g sz a m=>
  cases n with
  |zero=>cases hv
  |succ n=>
   simp only[aO]at hv;split at hv
   ·split at hv
    ·simp only[Wh]at hv;obtain⟨_,_,rfl⟩:=hv;rfl
    ·cases hv
   ·cases hv
 |mref=>cases n<;>cases hv
theorem j7 {w:World}{b:Nat}{o:Obj}(h:w.heap[b]? =some o):b < w.heap.size:=by
 rcases Wv b w.heap.size with hl|hl
 ·exact hl
 ·rw[WT hl]at h;cases h
section
variable {X:Cfg}{s:FS}{a:Act}{w:World}{c:Cx}(hc:RealC X s a w c){T:List Nat}
include hc
theorem iT:∀(n:Nat) {p:PV}{d:D}{v:Value},aO s.heap n p=some d→(∀k∈cn s.heap n p,k∈T)→RepP c w p v→RepD (jz c s.heap T) w d v
 |0,p,d,v,hv,ht,hr=>by
  cases p with
  |d x=>cases hv;exact(bA hr).keep (pX c s.heap T w)
  |_=>cases hv
 |n+1,p,d,v,hv,ht,hr=>by
  have many:∀(l:List PV) (ds:List D) (vs:List Value),bW (aO s.heap n) l=some ds→(∀k∈gq (cn s.heap n) l,k∈T)→aZ c w l vs→cS (jz c s.heap T) w ds vs:=by
   intro l ds vs cZ hT hl;obtain⟨q1,q2⟩:=dU cZ;refine⟨by rw[←q1];exact hl.1,fun j d x hj hx=>?_⟩;obtain⟨p,hp,uq⟩:=q2 j d hj;exact iT n uq (fun k hk=>hT k (d8 (V0 hp) k hk)) (hl.2 j p x hp hx)
  cases p with
  |d x=>rw[kO]at hv;cases hv;exact(bA hr).keep (pX c s.heap T w)
  |own k g=>
   simp only[aO]at hv;split at hv
   ·rename_i E sz g' rows hk;split at hv
    ·rename_i e;subst e;simp only[Wh]at hv;obtain⟨drows,cZ,rfl⟩:=hv;obtain⟨q1,q2⟩:=sH cZ;have bn:=hc.chunk k;rw[hk]at bn;have Sf:k∈T:=ht k (by simp[cn]);have un:∀r∈rows,∀p∈r,∀k'∈cn s.heap n p,k'∈T:=fun r hr p hp k' hk'=>ht k' (by
      simp only[cn,hk,WI];exact .inr (ma hr hp k' hk'))
     cases hr with
     |own _ _ _ dy _=>
      cases bn with
      |row _ _ _ _ u xs hu bf sg ck h1 hg=>
       rw[dy]at hu;cases hu;generalize hn:rows.length=n' at bf;have nilc:n'=0→drows=[]:=fun h0=>WA (by omega);cases bf with
       |nil=>rw[nilc rfl];exact .nil sz none 0 (by omega)
       |zero ad=>rw[nilc rfl];exact .nil sz (some ad) 0 (by omega)
       |row gb _ cap cur _ h0 hh Gq hm hs hl jp=>
        subst hn;have Gk:∀j,j < rows.length*sz→cur[j]? =xs[j]? :=by
         intro j hj;rw[←jp,Wo hj,WB]
        rw[q1];refine .sl sz drows gb 0 cap (fun i j=>xs.getD (i*sz+j) undef) (fun hm'=>hm'.2 k Sf (by rw[hk];simp[Cx.block,dy,cg h0])) (j7 hh) (by omega) (by simpa[maxLen]using hm) (fun r hr=>?_) (fun r hr d hd=>?_) (fun i j hi hj=>?_) (fun i j row d hi hj=>?_)
        ·obtain⟨j,hj,e⟩:=WR hr;obtain⟨p,hp,uq⟩:=q2 j r (by rw[←e];exact VY hj);rw[←(dU uq).1];exact ck p (V0 hp)
        ·obtain⟨j,hj,e⟩:=WR hr;obtain⟨p,hp,uq⟩:=q2 j r (by rw[←e];exact VY hj);obtain⟨j2,Gt,e2⟩:=WR hd;obtain⟨p2,Jp,CU⟩:=(dU uq).2 j2 d (by rw[←e2];exact VY Gt);exact j6 CU (h1 p (V0 hp) p2 (V0 Jp))
        ·have hij:i*sz+j < rows.length*sz:=by
          have:(i+1)*sz≤rows.length*sz:=WX sz (by omega);rw[Xf]at this;omega
         rw[Wn];simp only[Xl,hh,Gk _ hij];simp[Ww,VY (show i*sz+j < xs.length by omega)]
        ·obtain⟨p,hp,uq⟩:=q2 i row hi;obtain⟨p2,Jp,CU⟩:=(dU uq).2 j d hj;have hi':i < rows.length:=(V3.1 hp).1;have hj':j < sz:=by rw[←ck p (V0 hp)];exact(V3.1 Jp).1
         have hij:i*sz+j < rows.length*sz:=by
          have:(i+1)*sz≤rows.length*sz:=WX sz hi';rw[Xf]at this;omega
         have hx:xs[i*sz+j]? =some xs[i*sz+j]:=VY (by omega);have:=sg.2 (i*sz+j) p2 _ (by rw[bM ck i j hj',hp];exact Jp) hx;have:=iT n CU (un p (V0 hp) p2 (V0 Jp)) this;simpa[Ww,hx]using this
    ·cases hv
   ·cases hv
  |ptr k off=>
   simp only[aO]at hv;split at hv
   ·rename_i TT cells hk;simp only[Wh]at hv;obtain⟨ds,cZ,rfl⟩:=hv;have bn:=hc.chunk k;rw[hk]at bn;cases hr with
    |ptr _ _ b hb=>
     cases bn with
     |box _ _ b' vs hb' hh sg h1=>
      rw[hb]at hb';cases hb';have JY:aZ c w (cells.drop off) (vs.drop off):=⟨by rw[Wt,Wt,sg.1],fun j d x hj hx=>by
       rw[WU]at hj hx;exact sg.2 _ d x hj hx⟩
      have hm:=many _ ds _ cZ (fun k' hk'=>ht k' (by simp only[cn,hk,WI];exact .inr hk')) JY;obtain⟨q1,q2⟩:=dU cZ;refine .ept ds b off (fun j=>(vs.drop off).getD j undef) (fun hm'=>hm'.2 k (ht k (by simp[cn])) (by rw[hk];exact hb)) (j7 hh) (fun d hd=>?_) (fun j hj=>?_) (fun j d hj=>?_)
      ·obtain⟨j,hj,e⟩:=WR hd;obtain⟨p,hp,uq⟩:=q2 j d (by rw[←e];exact VY hj);exact j6 uq (h1 p (WL (V0 hp)))
      ·have hl:off+j < vs.length:=by have:=JY.1;rw[Wt,Wt]at this;rw[←q1,Wt]at hj;have:=sg.1;omega
       simp[Xl,hh,Ww,WU,VY hl]
      ·have hl:j < (vs.drop off).length:=by rw[←hm.1];exact(V3.1 hj).1
       have:=hm.2 j d _ hj (VY hl);simpa[Ww,VY hl]using this
   ·cases hv
  |rp k g sz i j=>
   simp only[aO]at hv;split at hv
   ·rename_i E sz' g' rows hk;split at hv
    ·rename_i e;obtain⟨rfl,rfl⟩:=e;split at hv
     ·rename_i row bu;simp only[Wh]at hv;obtain⟨ds,cZ,rfl⟩:=hv;have bn:=hc.chunk k;rw[hk]at bn;cases hr with
      |rp _ _ _ _ _ b nn cap hb=>
       obtain⟨cur,xs,z1,z2,z3,z4,z5,z6,z7,z8,z9,z10,z11⟩:=di bn hb (fun e=>by rw[e]at bu;cases bu);have hi:i < rows.length:=(V3.1 bu).1;have wP:row.length=sz:=z5 row (V0 bu);have xZ:(i+1)*sz≤rows.length*sz:=WX sz hi;rw[Xf]at xZ;have lH:=yE z2 z5 bu z3;generalize AX:(xs.drop (i*sz)).take sz=ys at lH;have pI:ys.length=sz:=by rw[←lH.1,wP]
       have bE:∀j' v,ys[j']? =some v→cur[i*sz+j']? =some v:=by
        intro j' v hj';rw[←AX]at hj';obtain⟨hlt,hj'⟩:=dE hj';rw[z4 _ (by omega),hj']
       have JY:aZ c w (row.drop j) (ys.drop j):=⟨by rw[Wt,Wt,lH.1],fun j d x hj hx=>by
        rw[WU]at hj hx;exact lH.2 _ d x hj hx⟩
       have hm:=many _ ds _ cZ (fun k' hk'=>ht k' (by simp only[cn,hk,bu,Xc,WI];exact .inr hk')) JY;obtain⟨q1,q2⟩:=dU cZ;have dy:c.block k (s.heap k)=cm (.slice (some ⟨b,0,none⟩) nn cap):=by rw[hk];simp[Cx.block,hb]
       refine .ept ds b (i*sz+j) (fun j'=>(ys.drop j).getD j' undef) (fun hm'=>hm'.2 k (ht k (by simp[cn])) (by rw[dy,cg (by omega)])) (j7 z1) (fun d hd=>?_) (fun j' hj'=>?_) (fun j' d hj'=>?_)
       ·obtain⟨j',hj',e⟩:=WR hd;obtain⟨p,hp,uq⟩:=q2 j' d (by rw[←e];exact VY hj');exact j6 uq (z6 row (V0 bu) p (WL (V0 hp)))
       ·have hl:j+j' < ys.length:=by rw[←q1,Wt]at hj';omega
        have:=bE (j+j') _ (VY hl);simp only[Xl,z1];rw[XI,this];simp[Ww,WU,VY hl]
       ·have hl:j' < (ys.drop j).length:=by rw[←hm.1];exact(V3.1 hj').1
        have:=hm.2 j' d _ hj' (VY hl);simpa[Ww,VY hl]using this
     ·cases hv
    ·cases hv
   ·cases hv
  |clo g caps=>
   simp only[aO,Wh]at hv;obtain⟨ds,cZ,rfl⟩:=hv;cases hr with
   |clo _ _ vs hl aV=>
    have hm:=many _ ds _ cZ (fun k' hk'=>ht k' hk') ⟨hl,aV⟩;exact .clo g ds vs hm.1 hm.2
  |agg cells=>
   simp only[aO,Wh]at hv;obtain⟨ds,cZ,rfl⟩:=hv;cases hr with
   |agg _ vs hl h1 aV=>
    have hm:=many _ ds _ cZ (fun k' hk'=>ht k' hk') ⟨hl,aV⟩;refine .agg ds vs hm.1 (fun d hd=>?_) hm.2;obtain⟨j,hj,e⟩:=WR hd;obtain⟨p,hp,uq⟩:=(dU cZ).2 j d (by rw[←e];exact VY hj);exact j6 uq (h1 p (V0 hp))
  |tup cells=>
   simp only[aO,Wh]at hv;obtain⟨ds,cZ,rfl⟩:=hv;cases hr with
   |tup _ vs hl aV=>
    have hm:=many _ ds _ cZ (fun k' hk'=>ht k' hk') ⟨hl,aV⟩;exact .tup ds vs hm.1 hm.2
  |any=>cases hv
  |osl k g sz a m=>
   simp only[aO]at hv;split at hv
   ·rename_i E sz' g' rows hk;split at hv
    ·rename_i e;obtain⟨rfl,rfl,OH⟩:=e;simp only[Wh]at hv;obtain⟨drows,cZ,rfl⟩:=hv;obtain⟨q1,q2⟩:=sH cZ;have bn:=hc.chunk k;rw[hk]at bn;have Sf:k∈T:=ht k (by simp[cn]);have un:∀r∈rows,∀p∈r,∀k'∈cn s.heap n p,k'∈T:=fun r hr p hp k' hk'=>ht k' (by
      simp only[cn,hk,WI];exact .inr (ma hr hp k' hk'))
     cases hr with
     |osl _ _ _ _ _ b o N cap dy hn MZ Jo=>
      obtain⟨cur,xs,z1,z2,z3,z4,z5,z6,z7,z8,z9,z10,z11⟩:=di bn dy (fun e=>by rw[e]at OH;simp at OH);have bc:((rows.drop a).take m).length=m:=by rw[V2,Wt];omega
      rw[bc]at q1;rcases Yk m with hm0|hm0
      ·subst hm0;have:drows=[]:=WA (by omega);subst this;exact .nil sz _ _ (by simp[maxLen]at z9;omega)
      ·have ho:o=a*sz:=Jo (by omega);subst ho;have bu:∀(j:Nat) (p:List PV),((rows.drop a).take m)[j]? =some p→rows[a+j]? =some p∧j < m:=by
        intro j p hp;have hj:j < m:=by have:=(V3.1 hp).1;rw[bc]at this;exact this
        rw[Wo hj,WU]at hp;exact⟨hp,hj⟩
       have jm:∀i j,a*sz+i*sz+j=(a+i)*sz+j:=fun i j=>by rw[XV]
       have vk:∀i j,i < m→j < sz→(a+i)*sz+j < rows.length*sz:=by
        intro i j hi hj;have:(a+i+1)*sz≤rows.length*sz:=WX sz (by omega);rw[Xf]at this;omega
       have hD:RepD (jz c s.heap T) w (.sl sz drows) (.slice (some ⟨b,a*sz,none⟩) drows.length (cap - a)):=by
        refine .sl sz drows b (a*sz) (cap - a) (fun i j=>xs.getD ((a+i)*sz+j) undef) (fun hm'=>hm'.2 k Sf (by rw[hk];simp[Cx.block,dy,cg (show 0 < cap by omega)])) (j7 z1) (by omega) (by simp[maxLen]at z9;omega) (fun r hr=>?_) (fun r hr d hd=>?_) (fun i j hi hj=>?_) (fun i j row d hi hj=>?_)
        ·obtain⟨j,hj,e⟩:=WR hr;obtain⟨p,hp,uq⟩:=q2 j r (by rw[←e];exact VY hj);rw[←(dU uq).1];exact z5 p (V0 (bu j p hp).1)
        ·obtain⟨j,hj,e⟩:=WR hr;obtain⟨p,hp,uq⟩:=q2 j r (by rw[←e];exact VY hj);obtain⟨j2,Gt,e2⟩:=WR hd;obtain⟨p2,Jp,CU⟩:=(dU uq).2 j2 d (by rw[←e2];exact VY Gt);exact j6 CU (z6 p (V0 (bu j p hp).1) p2 (V0 Jp))
        ·have hb:=vk i j (by omega) hj;rw[jm];simp only[Xl,z1,z4 _ hb];simp[Ww,VY (show (a+i)*sz+j < xs.length by omega)]
        ·obtain⟨p,hp,uq⟩:=q2 i row hi;obtain⟨p2,Jp,CU⟩:=(dU uq).2 j d hj;obtain⟨hp',hi'⟩:=bu i p hp;have hj':j < sz:=by rw[←z5 p (V0 hp')];exact(V3.1 Jp).1
         have hb:=vk i j hi' hj';have hx:xs[(a+i)*sz+j]? =some xs[(a+i)*sz+j]:=VY (by omega);have:=z2.2 ((a+i)*sz+j) p2 _ (by rw[bM z5 (a+i) j hj',hp'];exact Jp) hx;have:=iT n CU (un p (V0 hp') p2 (V0 Jp)) this;simpa[Ww,hx]using this
       rw[←q1]at hD;exact hD
    ·cases hv
   ·cases hv
  |mref=>cases hv
end
def vw (h:Nat→Chunk)(p:PV):Option D:=aO h 6 p
def tc (h:Nat→Chunk)(p:PV):List Nat:=cn h 6 p
theorem Kb {h h':Nat→Chunk}{p:PV}(e:∀k∈tc h p,h' k=h k):vw h' p=vw h p:=(dY 6 p e).1
theorem Kc {h h':Nat→Chunk}{p:PV}(e:∀k∈tc h p,h' k=h k):tc h' p=tc h p:=(dY 6 p e).2
section
variable {X:Cfg}{ops:Array Oper}{s:FS}{o:Oper}(hd:∀d,o.dst=some d→d < X.n)
include hd
theorem Kd {fo:Operand}{args:Array Operand}{tys:Array Nat}{g:Nat}{caps:List PV}{ds:List D}{r:D}(ho:o.op= .call {callee:= .value fo,args:=args,argTypes:=tys})
 (hf:ev s fo= .clo g caps∨∃cd:List D,ev s fo= .d (.clo g cd)∧caps=cd.map .d)
 (hv:bW (vw s.heap) (args.toList.map (ev s)++caps)=some ds) (hp:ae X.P g ds r) (iN:gq (tc s.heap) (args.toList.map (ev s)++caps)=[]∨r.flat=true):
 bj X ops s o {pv:= .d r,touch:=gq (tc s.heap) (args.toList.map (ev s)++caps)}:=by
 refine⟨hd,fun kc h=>by simp at h,fun s' he fj a w hr K Q hK=>?_⟩;obtain⟨c,hc⟩:=hr;have qJ:∀x,(x=fo∨x∈args)→ev s' x=ev s x:=fun x hx=>wY he x (by
  rw[ho];simp only[Op.operands,Call.operands];rcases hx with rfl|hx
  ·simp
  ·simp[hx])
 have wQ:args.toList.map (ev s')=args.toList.map (ev s):=Xr fun x hx=>qJ x (.inr (by simpa using hx));have OI:bW (vw s'.heap) (args.toList.map (ev s)++caps)=some ds:=by
  rw[←hv];exact ew fun p hp=>Kb fun k hk=>fj k (d8 hp k hk)
 have Sg:∀p∈args.toList.map (ev s)++caps,∀k∈tc s'.heap p,k∈gq (tc s.heap) (args.toList.map (ev s)++caps):=by
  intro p hp k hk;refine d8 hp k ?_;have key:tc s'.heap p=tc s.heap p:=Kc fun k hk=>fj k (d8 hp k hk);rw[←key];exact hk
 obtain⟨q1,q2⟩:=dU OI;obtain⟨fvs,OJ,rU,Bl⟩:∃fvs:List Value,a.eval fo= .func (.func g) #[] fvs.toArray∧caps.length=fvs.length∧∀(j:Nat) (p:PV) (x:Value),caps[j]? =some p→fvs[j]? =some x→RepP c w p x:=by
  have h0:=bo hc fo;rw[qJ fo (.inl rfl)]at h0;rcases hf with hf|⟨cd,hf,rfl⟩
  ·rw[hf]at h0;generalize a.eval fo=u at h0;cases h0 with
   |clo _ _ vs hl aV=>exact⟨vs,rfl,hl,aV⟩
  ·rw[hf]at h0;generalize a.eval fo=u at h0;have h0:=bA h0;cases h0 with
   |clo _ _ vs hl aV=>
    refine⟨vs,rfl,by simpa using hl,fun j p x hj hx=>?_⟩;simp only[V7,Wh]at hj;obtain⟨y,hy,rfl⟩:=hj;exact .d _ _ (aV j y x hy hx)
 have aV:cS (jz c s'.heap (gq (tc s.heap) (args.toList.map (ev s)++caps))) w ds (args.toList.map a.eval++fvs):=by
  refine⟨by rw[←q1];simp[rU],fun j d x hj hx=>?_⟩;obtain⟨p,hp,uq⟩:=q2 j d hj;refine iT hc 6 uq (Sg p (V0 hp)) ?_;by_cases hlt:j < args.toList.length
  ·rw[WK (by simpa using hlt)]at hp hx;simp only[V7,Wh]at hp hx;obtain⟨y,hy,rfl⟩:=hp;obtain⟨y',hy',rfl⟩:=hx;rw[hy]at hy';cases hy';have:=bo hc y;rwa [qJ y (.inr (by simpa using V0 hy))]at this
  ·rw[Wq (by simpa using hlt)]at hp hx;simp only[Wg]at hp hx;exact Bl _ p x hp hx
 have fY:=hp.2 _ w (args.toList.map a.eval++fvs) (fun b hb=>hc.lt hb.1) (hc.ginv.keep ⟨Wa _,fun _ _ _=>rfl,fun b _ hb=>hb.1⟩) aV;have bG:(execOp a.eval o).run X.P w= .ok (.enter g (args.toList.map a.eval++fvs).toArray) w:=by
  have e:(args.toList.map a.eval++fvs).toArray=args.map a.eval++fvs.toArray:=by
   apply YA;simp
  rw[e];simp[execOp,ho,resolve,OJ,Deferred.ofValue,invoke];exact hp.1 _ _
 unfold Oper.wp;rw[bG,Oper.upon_enter];refine fY.mono ?_;rintro e w' ⟨v,rfl,hv',hx⟩;have ij:=hc.grow hx;refine hK v w' ⟨c,ij.put (.d _ _ ?_) hd⟩;rcases iN with h0|hflat
 ·refine hv'.keep ⟨Wa _,fun _ _ _=>rfl,fun b _ hb=>⟨hb,fun k hk=>?_⟩⟩;rw[h0]at hk;simp at hk
 ·exact G8 hv' hflat
end
theorem pY {size:Nat}(place:Nat→Option (Nat × Nat))(lG:∀i,place i=some (i*size,size)):∀(vs:List Value) (i:Nat) (done rest:List Value),(∀v∈vs,v.cells.size=size)→done.length=i*size→rest.length=vs.length*size→
 Instr.fill place (done++rest).toArray ((vs.zipIdx i).map fun(v,j)=>(j,v))=some (done++(vs.map fun v=>v.cells.toList).flatten).toArray
 |[],i,done,rest,_,_,hr=>by
  have:rest=[]:=WA (by simpa using hr);subst this;simp[Instr.fill]
 |v::vs,i,done,rest,hv,TH,hr=>by
  have h0:=hv v (by simp);rw[Wc,Xf]at hr;simp only[List.zipIdx_cons,V1];rw[vG place _ i (i*size) size v _ (lG i) h0 (by simp;omega)];have e:ap (done++rest) (i*size) v.cells.toList=(done++v.cells.toList)++rest.drop size:=by
   unfold ap;have hl:v.cells.toList.length=size:=by simpa using h0
   rw[←TH,List.take_left,hl,Zb,YY (by omega),WO];congr 1;congr 1;omega
  simp only[Xs];rw[e,pY place lG vs (i+1) (done++v.cells.toList) (rest.drop size) (fun x hx=>hv x (by simp[hx])) (by rw[V9,TH,Xf];simp;omega) (by rw[Wt];omega)];simp
section
variable {X:Cfg}{ops:Array Oper}{s:FS}{o:Oper}(hd:∀d,o.dst=some d→d < X.n)
include hd
theorem uM {t e n sz:Nat}{parts:Array (Nat × Operand)}{ti te:TI}{rows:List (List D)}(ho:o.op= .buildSlice t n parts)(ht:aI X.P t=some ti)(he':ti.elem=some e)(eP:aI X.P e=some te)
 (ck:te.size=sz) (x6:0 < sz) (x5:0 < n) (OK:n*sz≤16777216) (yd:rows.length=n) (jn:parts.size=n) (hp:∀(j:Nat) (i:Nat) (x:Operand),parts[j]? =some (i,x)→i=j∧∃ds,rows[j]? =some ds∧sx (cj (ev s x))=some ds∧vH (ev s x)=true∧ds.length=sz):
 bj X ops s o {pv:= .d (.sl sz rows)}:=
 cT hd (fun kc h=>by simp at h) fun s' he _ a w c hc=>by
  obtain⟨i,d,z,tk⟩:=fk ht;obtain⟨ie,de,ze,tke⟩:=fk eP;have ib:d= .slice e:=by
   have:=tk.elem;rw[he']at this;cases d<;>simp[eu]at this;rw[this]
  subst ib;obtain⟨vs,qI⟩:∃vs:List Value,vs=parts.toList.map fun p=>a.eval p.2:=⟨_,rfl⟩;have MV:vs.length=n:=by rw[qI];simpa using jn
  have bu:∀(j:Nat) (ds:List D) (v:Value),rows[j]? =some ds→vs[j]? =some v→cS c.M w ds v.cells.toList∧(∀e∈ds,e.one=true)∧ds.length=sz:=by
   intro j ds v hj hv;rw[qI]at hv;simp only[V7,WB,Wh]at hv;obtain⟨⟨i,y⟩,hy,rfl⟩:=hv;obtain⟨-,ds',g1,g2,g3,g4⟩:=hp j i y hy;rw[hj]at g1;cases g1;have pH:y∈o.op.operands:=by
    rw[ho];simp only[Op.operands,Za,Wp];exact⟨(i,y),by simpa using Yn hy,rfl⟩
   have aV:=bo hc y;rw[he y pH]at aV;obtain⟨r1,r2⟩:=iF aV g3;have gh:=oR g2;refine⟨⟨?_,fun k e v hk hv=>?_⟩,fun e he'=>?_,g4⟩
   ·have:=r1.1;rw[gh,Wg]at this;exact this
   ·exact bA (r1.2 k (.d e) v (by rw[gh,V7,hk];rfl) hv)
   ·have:=r2 (.d e) (by rw[gh];exact XC he');exact this
  have Gb:∀v∈vs,v.cells.size=sz:=by
   intro v hv;obtain⟨j,hj,e⟩:=WR hv;have Sh:j < rows.length:=by omega
   have:=(bu j rows[j] v (VY Sh) (by rw[←e];exact VY hj));have h2:=this.1.1;simp at h2;omega
  have CV:(parts.map fun(i,x)=>(i,a.eval x)).toList=((vs.zipIdx 0).map fun(v,j)=>(j,v)):=by
   apply WS;intro j;simp only[YL,V7,List.getElem?_zipIdx,qI,WB];cases hj:parts[j]? with
   |none=>rfl
   |some ix=>
    obtain⟨i,x⟩:=ix;obtain⟨rfl,-⟩:=hp j i x hj;simp
  have M3:ze.cells.size=sz:=by rw[←ck,←tke.zsize,←tke.zcells];simp
  have Jq:Instr.fill (fun i=>some (i*sz,sz)) ((Y8 (n*sz)).map (ze.cells[· % ze.cells.size]!)) (parts.map fun(i,x)=>(i,a.eval x)).toList=some ((vs.map fun v=>v.cells.toList).flatten).toArray:=by
   have:=pY (size:=sz) (fun i=>some (i*sz,sz)) (fun _=>rfl) vs 0 [] ((Y8 (n*sz)).map (ze.cells[· % ze.cells.size]!)).toList Gb (by simp) (by simp[MV]);rw[CV];rw[WO,WO,Y4]at this;exact this
  have iN:∀r∈vs.map fun v=>v.cells.toList,r.length=sz:=by
   intro r hr;obtain⟨v,hv,rfl⟩:=Wp.1 hr;simpa using Gb v hv
  have hx:=gp w (.cells ((vs.map fun v=>v.cells.toList).flatten).toArray e);refine⟨.value (.slice (some ⟨w.heap.size,0,none⟩) n n),_,w.alloc (.cells ((vs.map fun v=>v.cells.toList).flatten).toArray e),?_,.inl rfl,c,hc.grow hx,.d _ _ ?_⟩
  ·have gE:∀o:Obj,({w with heap:=w.heap.push o}:World)=w.alloc o:=fun o=>(YX w o);have bG:(Instr.buildSlice t n (parts.map fun(i,x)=>(i,a.eval x))).run X.P w= .ok (.slice (some ⟨w.heap.size,0,none⟩) n n) (w.alloc (.cells ((vs.map fun v=>v.cells.toList).flatten).toArray e)):=by
    have bq:¬(n*sz=0):=Nat.ne_of_gt (Nat.mul_pos x5 x6);unfold Instr.buildSlice;simp only[Sem.run_bind,run_underlying tk.und,Result.andThen_ok,sizeOf,typeInfo,run_program,tke.info,Sem.run_pure,tke.size,ck];rw[if_neg (by omega),if_neg bq];simp only[Sem.run_bind,zeroValue,typeInfo,run_program,tke.info,Result.andThen_ok,Sem.run_pure,tke.zero,Jq];simp[newRow,newObj,Sem.run,gE]
   simp only[execOp,ho];rw[Sem.run_bind,bG];rfl
  ·have hM:∀b,c.M b→b < w.heap.size:=fun b hb=>hc.lt hb;have hk:Keep c.M w c.M (w.alloc (.cells ((vs.map fun v=>v.cells.toList).flatten).toArray e)):=Keep.ext hx hM;subst yd;refine .sl sz rows w.heap.size 0 rows.length (fun i j=>((vs[i]?.map fun v=>v.cells.toList).getD []).getD j undef) (fun h=>by have:=hM _ h;omega) (by rw[size_alloc];omega) (Wa _)
    (by have:rows.length≤rows.length*sz:=Nat.le_mul_of_pos_right _ x6;omega) (fun r hr=>?_) (fun r hr=>?_) (fun i j hi hj=>?_) (fun i j row d hi hj=>?_)
   ·obtain⟨j,hj,e⟩:=WR hr;exact(bu j r vs[j] (by rw[←e];exact VY hj) (VY (by omega))).2.2
   ·obtain⟨j,hj,e⟩:=WR hr;exact(bu j r vs[j] (by rw[←e];exact VY hj) (VY (by omega))).2.1
   ·have hv:vs[i]? =some vs[i]:=VY (by omega);have hf:=bM (rows:=vs.map fun v=>v.cells.toList) iN i j hj;rw[V7,hv]at hf;simp only[Xl,gL,Wn,List.getElem?_toArray,hf,hv,WQ,Xc,Xn];have hl:j < vs[i].cells.toList.length:=by
     have:=Gb vs[i] (W8 (by omega));simpa[this]using hj
    simp[Ww,VY hl]
   ·have hi':i < rows.length:=(V3.1 hi).1;have hv:vs[i]? =some vs[i]:=VY (by omega);obtain⟨g1,g2,g3⟩:=bu i row vs[i] hi hv;have hl:j < vs[i].cells.toList.length:=by rw[←g1.1];exact(V3.1 hj).1
    have:=(g1.2 j d _ hj (VY hl)).keep hk;simpa[hv,Ww,VY hl]using this
theorem sI {t e n sz nk:Nat}{parts:Array (Nat × Operand)}{ti te:TI}{rows:List (List PV)}(ho:o.op= .buildSlice t n parts)(ht:aI X.P t=some ti)(he':ti.elem=some e)(eP:aI X.P e=some te)
 (ck:te.size=sz) (x6:0 < sz) (x5:0 < n) (OK:n*sz≤16777216) (yd:rows.length=n) (jn:parts.size=n) (hk:s.heap nk= .none) (rz:¬nk < X.m) (hp:∀(j:Nat) (i:Nat) (x:Operand),parts[j]? =some (i,x)→i=j∧rows[j]? =some (cj (ev s x))∧vH (ev s x)=true∧(cj (ev s x)).length=sz):
 bj X ops s o {pv:= .own nk 0,eff:=[(nk,.row e sz 0 rows)],touch:=[nk]}:=
 cT hd (fun kc h=>by simp at h;subst h;simp) fun s' he fj a w c hc=>by
  obtain⟨i,d,z,tk⟩:=fk ht;obtain⟨ie,de,ze,tke⟩:=fk eP;have ib:d= .slice e:=by
   have:=tk.elem;rw[he']at this;cases d<;>simp[eu]at this;rw[this]
  subst ib;obtain⟨vs,qI⟩:∃vs:List Value,vs=parts.toList.map fun p=>a.eval p.2:=⟨_,rfl⟩;have MV:vs.length=n:=by rw[qI];simpa using jn
  have bu:∀(j:Nat) (ds:List PV) (v:Value),rows[j]? =some ds→vs[j]? =some v→aZ c w ds v.cells.toList∧(∀e∈ds,e.one=true)∧ds.length=sz:=by
   intro j ds v hj hv;rw[qI]at hv;simp only[V7,WB,Wh]at hv;obtain⟨⟨i,y⟩,hy,rfl⟩:=hv;obtain⟨-,g1,g3,g4⟩:=hp j i y hy;rw[hj]at g1;cases g1;have pH:y∈o.op.operands:=by
    rw[ho];simp only[Op.operands,Za,Wp];exact⟨(i,y),by simpa using Yn hy,rfl⟩
   have aV:=bo hc y;rw[he y pH]at aV;obtain⟨r1,r2⟩:=iF aV g3;exact⟨r1,r2,g4⟩
  have Gb:∀v∈vs,v.cells.size=sz:=by
   intro v hv;obtain⟨j,hj,e⟩:=WR hv;have Sh:j < rows.length:=by omega
   have:=(bu j rows[j] v (VY Sh) (by rw[←e];exact VY hj));have h2:=this.1.1;simp at h2;omega
  have CV:(parts.map fun(i,x)=>(i,a.eval x)).toList=((vs.zipIdx 0).map fun(v,j)=>(j,v)):=by
   apply WS;intro j;simp only[YL,V7,List.getElem?_zipIdx,qI,WB];cases hj:parts[j]? with
   |none=>rfl
   |some ix=>
    obtain⟨i,x⟩:=ix;obtain⟨rfl,-⟩:=hp j i x hj;simp
  have M3:ze.cells.size=sz:=by rw[←ck,←tke.zsize,←tke.zcells];simp
  have Jq:Instr.fill (fun i=>some (i*sz,sz)) ((Y8 (n*sz)).map (ze.cells[· % ze.cells.size]!)) (parts.map fun(i,x)=>(i,a.eval x)).toList=some ((vs.map fun v=>v.cells.toList).flatten).toArray:=by
   have:=pY (size:=sz) (fun i=>some (i*sz,sz)) (fun _=>rfl) vs 0 [] ((Y8 (n*sz)).map (ze.cells[· % ze.cells.size]!)).toList Gb (by simp) (by simp[MV]);rw[CV];rw[WO,WO,Y4]at this;exact this
  have iN:∀r∈vs.map fun v=>v.cells.toList,r.length=sz:=by
   intro r hr;obtain⟨v,hv,rfl⟩:=Wp.1 hr;simpa using Gb v hv
  have hx:=gp w (.cells ((vs.map fun v=>v.cells.toList).flatten).toArray e);have hk':s'.heap nk= .none:=by rw[fj nk (by simp)];exact hk
  have Ei:(vs.map fun v=>v.cells.toList).flatten.length=n*sz:=by rw[b9 iN];simp[MV]
  have aV:aZ c w rows.flatten (vs.map fun v=>v.cells.toList).flatten:=by
   refine⟨?_,fun j d x hj hx=>?_⟩
   ·rw[b9 (fun r hr=>?_),Ei,yd];obtain⟨j,hj,e⟩:=WR hr;exact(bu j r vs[j] (by rw[←e];exact VY hj) (VY (by omega))).2.2
   ·have wP:∀r∈rows,r.length=sz:=fun r hr=>by
     obtain⟨j,hj,e⟩:=WR hr;exact(bu j r vs[j] (by rw[←e];exact VY hj) (VY (by omega))).2.2
    have Si:j < n*sz:=by rw[←Ei];exact(V3.1 hx).1
    have q1:j / sz < n:=X2 (by rw[XU];exact Si);have q2:j % sz < sz:=Y6 _ x6;have q3:j / sz*sz+j % sz=j:=by rw[XU];exact Yq j sz
    rw[←q3,bM wP _ _ q2]at hj;rw[←q3,bM iN _ _ q2,V7]at hx;have h1:rows[j / sz]? =some rows[j / sz]:=VY (by omega);have h2:vs[j / sz]? =some vs[j / sz]:=VY (by omega);rw[h1]at hj;rw[h2]at hx;exact(bu _ _ _ h1 h2).1.2 _ d x hj hx
  have bf:OwnV (w.alloc (.cells ((vs.map fun v=>v.cells.toList).flatten).toArray e)) e sz (.slice (some ⟨w.heap.size,0,none⟩) n n) rows.length ((vs.map fun v=>v.cells.toList).flatten):=by
   rw[yd];refine .row _ n n _ _ x5 (gL w _) (Wa _) (by have:n≤n*sz:=Nat.le_mul_of_pos_right _ x6;unfold maxLen;omega) (by simp only[Xb];exact Ei) Ei ?_;rw[Xs,Wj (by omega)]
  obtain⟨c',q1,q2⟩:=hc.new_row (w':=w.alloc (.cells ((vs.map fun v=>v.cells.toList).flatten).toArray e)) hk' rz e sz rows _ _ hx bf (fun b hb=>by rw[cg x5]at hb;cases hb;exact Wa _) aV (fun r hr=>by
   obtain⟨j,hj,e⟩:=WR hr;exact(bu j r vs[j] (by rw[←e];exact VY hj) (VY (by omega))).2.2) (fun r hr=>by
   obtain⟨j,hj,e⟩:=WR hr;exact(bu j r vs[j] (by rw[←e];exact VY hj) (VY (by omega))).2.1)
  refine⟨.value (.slice (some ⟨w.heap.size,0,none⟩) n n),_,w.alloc (.cells ((vs.map fun v=>v.cells.toList).flatten).toArray e),?_,.inl rfl,c',q1,q2⟩;have gE:∀o:Obj,({w with heap:=w.heap.push o}:World)=w.alloc o:=fun o=>(YX w o);have bG:(Instr.buildSlice t n (parts.map fun(i,x)=>(i,a.eval x))).run X.P w= .ok (.slice (some ⟨w.heap.size,0,none⟩) n n) (w.alloc (.cells ((vs.map fun v=>v.cells.toList).flatten).toArray e)):=by
   have bq:¬(n*sz=0):=Nat.ne_of_gt (Nat.mul_pos x5 x6);unfold Instr.buildSlice;simp only[Sem.run_bind,run_underlying tk.und,Result.andThen_ok,sizeOf,typeInfo,run_program,tke.info,Sem.run_pure,tke.size,ck];rw[if_neg (by omega),if_neg bq];simp only[Sem.run_bind,zeroValue,typeInfo,run_program,tke.info,Result.andThen_ok,Sem.run_pure,tke.zero,Jq];simp[newRow,newObj,Sem.run,gE]
  simp only[execOp,ho];rw[Sem.run_bind,bG];rfl
theorem sJ {t e nk:Nat}{ti te:TI}(ho:o.op= .buildSlice t 0 #[])(ht:aI X.P t=some ti)(he':ti.elem=some e)(eP:aI X.P e=some te)(hk:s.heap nk= .none)(rz:¬nk < X.m):
 bj X ops s o {pv:= .own nk 0,eff:=[(nk,.row e te.size 0 [])],touch:=[nk]}:=
 cT hd (fun kc h=>by simp at h;subst h;simp) fun s' he fj a w c hc=>by
  obtain⟨i,d,z,tk⟩:=fk ht;obtain⟨ie,de,ze,tke⟩:=fk eP;have ib:d= .slice e:=by
   have:=tk.elem;rw[he']at this;cases d<;>simp[eu]at this;rw[this]
  subst ib;have hk':s'.heap nk= .none:=by rw[fj nk (by simp)];exact hk
  obtain⟨c',q1,q2⟩:=hc.new_row (w':=w.alloc (.cells #[] e)) hk' rz e te.size [] _ [] (gp w _) (.zero ⟨w.heap.size,0,none⟩) (fun b hb=>by cases hb) ⟨rfl,fun j d x h=>by simp at h⟩ (by simp) (by simp);refine⟨_,_,_,?_,.inl rfl,c',q1,q2⟩;have gE:∀o:Obj,({w with heap:=w.heap.push o}:World)=w.alloc o:=fun o=>(YX w o);have bG:(Instr.buildSlice t 0 #[]).run X.P w= .ok (.slice (some ⟨w.heap.size,0,none⟩) 0 0) (w.alloc (.cells #[] e)):=by
   simp[Instr.buildSlice,run_underlying tk.und,sizeOf,typeInfo,tke.info,Instr.fill,newRow,newObj,Sem.run,gE];rw[show Array.map (fun _=>(default:Value)) (Y8 0)=#[] from Array.eq_empty_of_size_eq_zero (by simp)]
  simp only[execOp,ho];rw[Sem.run_bind];simp only[Array.map_empty,bG];rfl
theorem xf {t e nk:Nat}{l x:Operand}{ti te:TI}{zv:Value}{k k':IntKind}{n:Int}(ho:o.op= .makeSlice t l x)(ht:aI X.P t=some ti)(he':ti.elem=some e)(eP:aI X.P e=some te)
 (lE:te.zero=[zv]) (x5:0 < n) (hb:(te.bytes:Int)*n≤281474976710656) (hm:n≤9223372036854775807) (hl:ev s l= .d (.v (.int k n))) (hx:ev s x= .d (.v (.int k' n))) (hk:s.heap nk= .none) (rz:¬nk < X.m):
 bj X ops s o {pv:= .own nk 0,eff:=[(nk,.row e 1 0 (Wy n.toNat [.d (.v zv)]))],touch:=[nk]}:=
 cT hd (fun kc h=>by simp at h;subst h;simp) fun s' he fj a w c hc=>by
  obtain⟨i,d,z,tk⟩:=fk ht;obtain⟨ie,de,ze,tke⟩:=fk eP;have ib:d= .slice e:=by
   have:=tk.elem;rw[he']at this;cases d<;>simp[eu]at this;rw[this]
  subst ib;have e1:=bo hc l;rw[he l (by simp[ho,Op.operands]),hl]at e1;have e2:=bo hc x;rw[he x (by simp[ho,Op.operands]),hx]at e2;have e3:a.eval l= .int k n:=by generalize a.eval l=u at e1;cases bA e1;rfl
  have e4:a.eval x= .int k' n:=by generalize a.eval x=u at e2;cases bA e2;rfl
  have M3:ze.cells=#[zv]:=by apply YA;rw[tke.zcells,lE]
  have ck:ie.size=1:=by have:=tke.zsize;rw[lE]at this;rw[tke.size];simpa using this.symm
  have Qo:Go.madeCells ze.cells (n.toNat*ie.size)=(Wy n.toNat zv).toArray:=by
   rw[M3,ck,Nat.mul_one];apply YA;simp only[Go.madeCells,YL,Array.toList_range];apply List.ext_getElem
   ·simp
   ·intro j h1 h2;simp[Nat.mod_one]
  have hk':s'.heap nk= .none:=by rw[fj nk (by simp)];exact hk
  have wP:∀r∈Wy n.toNat [PV.d (.v zv)],r=[PV.d (.v zv)]:=fun r hr=>XY hr;have hflat:(Wy n.toNat [PV.d (.v zv)]).flatten=Wy n.toNat (PV.d (.v zv)):=by
   induction n.toNat with
   |zero=>rfl
   |succ m ih=>rw[List.replicate_succ,Xe,ih];rfl
  have Sj:zv.oneCell'=true:=tke.one zv (by rw[lE];simp);obtain⟨c',q1,q2⟩:=hc.new_row (w':=w.alloc (.cells (Wy n.toNat zv).toArray e)) hk' rz e 1 (Wy n.toNat [PV.d (.v zv)]) (.slice (some ⟨w.heap.size,0,none⟩) n.toNat n.toNat) (Wy n.toNat zv) (gp w _) (by
   rw[List.length_replicate];refine .row _ n.toNat n.toNat _ _ (by omega) (gL w _) (Wa _) (by unfold maxLen;omega) (by simp) (by simp) ?_;rw[Xs,Wj (by simp)]) (fun b hb=>by rw[cg (by omega)]at hb;cases hb;exact Wa _) (by
   rw[hflat];refine⟨by simp,fun j d u hj hu=>?_⟩;rw[List.getElem?_replicate]at hj hu;split at hj
   ·cases hj;rename_i hlt;rw[if_pos hlt]at hu;cases hu;exact .d _ _ (.v _)
   ·cases hj) (fun r hr=>by rw[wP r hr];rfl) (fun r hr d hd=>by rw[wP r hr]at hd;rw[WP.1 hd];exact Sj)
  refine⟨_,_,_,?_,.inl rfl,c',q1,q2⟩;have bG:=run_make (P:=X.P) w t e ie ze tk.und tke.info tke.zero k k' n n (by omega) (Int.le_refl _) (by rw[tke.bytes];exact hb) hm;rw[Qo]at bG;simp only[execOp,ho,e3,e4];rw[Sem.run_bind,bG];rfl
theorem BJ {src dst:Nat}{x:Operand}{k k':IntKind}{n:Int}{ts td:TI}(ho:o.op= .convert src dst x)(hs:aI X.P src=some ts)(ht:aI X.P dst=some td)(hi:td.int=some k)(hx:ev s x= .d (.v (.int k' n))):
 bj X ops s o {pv:= .d (.v (.int k (k.wrap n)))}:=
 az hd fun s' he _ a w c hc=>by
  have h1:=cw hc ((he x (by simp[ho,Op.operands])).trans hx);obtain⟨i,d,z,tk⟩:=fk hs;obtain⟨i2,d2,z2,tk2⟩:=fk ht;have yf:d2= .int k:=by
   have:=tk2.int;rw[hi]at this;cases d2<;>simp[J8]at this;rw[this]
  subst yf;refine⟨.int k (k.wrap n),?_,.d _ _ (.v _)⟩;have bG:(convert src dst (.int k' n)).run X.P w= .ok (.int k (k.wrap n)) w:=by
   simp[convert,run_underlying tk.und,run_underlying tk2.und,Conv.intToInt]
  simp only[execOp,ho,h1];rw[Sem.run_bind,bG];rfl
theorem Nu {x y:Operand}{tys:Array Nat}{k:IntKind}{m n:Int}(ho:o.op= .call {callee:= .builtin .min,args:=#[x,y],argTypes:=tys})(hx:ev s x= .d (.v (.int k m)))(hy:ev s y= .d (.v (.int k n))):
 bj X ops s o {pv:= .d (.v (.int k (if n < m then n else m)))}:=
 az hd fun s' he _ a w c hc=>by
  have h1:=cw hc ((he x (by simp[ho,Op.operands,Call.operands])).trans hx);have h2:=cw hc ((he y (by simp[ho,Op.operands,Call.operands])).trans hy);exact⟨.int k (if n < m then n else m),by simp[execOp,ho,resolve,h1,h2,invoke,builtin,Builtin.min_,Builtin.min2],.d _ _ (.v _)⟩
theorem Nv {x y:Operand}{tys:Array Nat}{k:IntKind}{m n:Int}(ho:o.op= .call {callee:= .builtin .max,args:=#[x,y],argTypes:=tys})(hx:ev s x= .d (.v (.int k m)))(hy:ev s y= .d (.v (.int k n))):
 bj X ops s o {pv:= .d (.v (.int k (if m < n then n else m)))}:=
 az hd fun s' he _ a w c hc=>by
  have h1:=cw hc ((he x (by simp[ho,Op.operands,Call.operands])).trans hx);have h2:=cw hc ((he y (by simp[ho,Op.operands,Call.operands])).trans hy);exact⟨.int k (if m < n then n else m),by simp[execOp,ho,resolve,h1,h2,invoke,builtin,Builtin.max_,Builtin.max2],.d _ _ (.v _)⟩
end
theorem j8 (T:List Nat)(h:Nat→Chunk)(k:Nat):bS (T.map fun k=>(k,.gone)) h k=if k∈T then .gone else h k:=by
 induction T with
 |nil=>simp[bS]
 |cons a T ih=>
  simp only[V1,bS];by_cases e:k=a
  ·simp[e]
  ·rw[if_neg e,ih];simp[e]
theorem RealC.freeze {X:Cfg}{s:FS}{a:Act}{w:World}{c:Cx}(h:RealC X s a w c)(T:List Nat):
 RealC X {s with heap:=bS (T.map fun k=>(k,.gone)) s.heap} a w {c with M:=jz c s.heap T}:=by
 have oE:=j8 T s.heap;have hk:=pX c s.heap T w;have ct:∀k ch,Cx.block {c with M:=jz c s.heap T} k ch=c.block k ch:=fun k ch=>by cases ch<;>rfl
 have hle:c.le {c with M:=jz c s.heap T}:=⟨fun _ _ h=>h,fun _ _ _ h=>h⟩;refine⟨h.size,h.defers,h.ext,h.inv,h.fresh,fun b=>?_,fun k b hb=>?_,fun k k' b hb hb'=>?_,fun t=>(h.env t).keep hle hk,fun k=>?_,h.lent⟩
 ·constructor
  ·rintro⟨hm,hT⟩;rcases(h.mu b).1 hm with h0|⟨k,Ej⟩
   ·exact .inl h0
   ·refine .inr ⟨k,?_⟩;have Sk:k∉T:=fun g7=>hT k g7 Ej;simp only[oE,if_neg Sk,ct];exact Ej
  ·rintro (h0|⟨k,Ej⟩)
   ·refine⟨(h.mu b).2 (.inl h0),fun k _ e=>?_⟩;rcases(h.new k b e).1 with h1|h1
    ·exact(h.fresh b h0).2 h1
    ·have:=(h.fresh b h0).1;omega
   ·simp only[oE,ct]at Ej;split at Ej
    ·simp[Cx.block]at Ej
    ·rename_i Sk;refine⟨(h.mu b).2 (.inr ⟨k,Ej⟩),fun k' hk' e=>?_⟩;have:=h.apart k k' b Ej e;subst this;exact Sk hk'
 ·simp only[oE,ct]at hb;split at hb
  ·simp[Cx.block]at hb
  ·exact h.new k b hb
 ·simp only[oE,ct]at hb hb';split at hb
  ·simp[Cx.block]at hb
  ·split at hb'
   ·simp[Cx.block]at hb'
   ·exact h.apart k k' b hb hb'
 ·simp only[oE];split
  ·exact .gone
  ·exact(h.chunk k).keep hle hk (fun _ _=>rfl) rfl rfl
abbrev bK:=List (Nat × PV)
def dQ:bK→Nat→PV
 |[],_=> .any
 |(a,p)::l,t=>if t=a then p else dQ l t
def aw:List Chunk→Nat→Chunk
 |[],_=> .none
 |c::_,0=>c
 |_::l,k+1=>aw l k
def bp (e:bK)(h:List Chunk):FS:=⟨dQ e,aw h⟩
def cK (e:bK):Operand→PV
 | .tmp t=>dQ e t
 | .const v=> .d (.v v)
 | .func f=> .d (.clo f [])
 | .global _=> .any
theorem aq (e:bK)(h:List Chunk)(x:Operand):ev (bp e h) x=cK e x:=by cases x<;>rfl
mutual
def ag (n:Nat):PV→Bool
 | .ptr k _=>decide (k < n)
 | .own k _=>decide (k < n)
 | .rp k _ _ _ _=>decide (k < n)
 | .osl k _ _ _ _=>decide (k < n)
 | .mref k=>decide (k < n)
 | .agg l=>af n l
 | .tup l=>af n l
 | .clo _ caps=>af n caps
 | .d _=>true
 | .any=>true
def af (n:Nat):List PV→Bool
 |[]=>true
 |p::l=>ag n p&&af n l
end
theorem gu {n:Nat}:∀{l:List PV},af n l=true→∀p∈l,ag n p=true
 |q::l,h,p,hp=>by
  simp only[af,Wd]at h;rcases WI.1 hp with rfl|hp
  ·exact h.1
  ·exact gu h.2 p hp
def bN (n:Nat):List (List PV)→Bool
 |[]=>true
 |r::l=>af n r&&bN n l
theorem aK (n:Nat):∀(l:List D),af n (l.map .d)=true
 |[]=>rfl
 |x::l=>by simp only[V1,af,ag,aK n l,WW]
theorem an (n:Nat):∀(l:List (List D)),bN n (aa l)=true
 |[]=>rfl
 |x::l=>by
  have:=an n l;simp only[aa]at this;simp only[aa,V1,bN,aK,this,WW]
def aH (n:Nat):Chunk→Bool
 | .box _ cells=>af n cells
 | .row _ _ _ rows=>bN n rows
 |_=>true
def ay (n:Nat):List Chunk→Bool
 |[]=>true
 |c::l=>aH n c&&ay n l
def dn (n:Nat):bK→Bool
 |[]=>true
 |(_,p)::l=>ag n p&&dn n l
def EI (e:bK):bK→Prop
 |[]=>True
 |(t,p)::l=>dQ e t=p∧EI e l
theorem sK {n:Nat}:∀{e:bK},dn n e=true→∀t,ag n (dQ e t)=true
 |[],_,_=>rfl
 |(t',p)::l,h,t=>by
  simp only[dn,Wd]at h;simp only[dQ];by_cases ht:t=t'
  ·rw[if_pos ht];exact h.1
  ·rw[if_neg ht];exact sK h.2 t
theorem pZ {n:Nat}:∀{h:List Chunk},ay n h=true→∀k,aH n (aw h k)=true
 |[],_,_=>rfl
 |c::l,h,k=>by
  simp only[ay,Wd]at h;cases k with
  |zero=>exact h.1
  |succ k=>exact pZ h.2 k
mutual
def ren (ρ:Nat→Nat):PV→PV
 | .d x=> .d x
 | .any=> .any
 | .ptr k o=> .ptr (ρ k) o
 | .own k g=> .own (ρ k) g
 | .rp k g sz i j=> .rp (ρ k) g sz i j
 | .osl k g sz a n=> .osl (ρ k) g sz a n
 | .clo g caps=> .clo g (fK ρ caps)
 | .agg l=> .agg (fK ρ l)
 | .tup l=> .tup (fK ρ l)
 | .mref k=> .mref (ρ k)
def fK (ρ:Nat→Nat):List PV→List PV
 |[]=>[]
 |p::l=>ren ρ p::fK ρ l
end
def gM (ρ:Nat→Nat):List (List PV)→List (List PV)
 |[]=>[]
 |r::l=>fK ρ r::gM ρ l
def js (ρ:Nat→Nat):Chunk→Chunk
 | .box T cells=> .box T (fK ρ cells)
 | .row E sz g rows=> .row E sz g (gM ρ rows)
 |c=>c
theorem co (ρ:Nat→Nat):∀(l:List PV),fK ρ l=l.map (ren ρ)
 |[]=>rfl
 |p::l=>by simp only[fK,co ρ l,V1]
theorem dG (ρ:Nat→Nat):∀(l:List (List PV)),gM ρ l=l.map (·.map (ren ρ))
 |[]=>rfl
 |p::l=>by simp only[gM,dG ρ l,co,V1]
theorem BK (ρ:Nat→Nat):∀(l:List D),fK ρ (l.map .d)=l.map .d
 |[]=>rfl
 |x::l=>by simp only[V1,fK,ren,BK ρ l]
theorem sL (ρ:Nat→Nat):∀(l:List (List D)),gM ρ (aa l)=aa l
 |[]=>rfl
 |x::l=>by
  have:=sL ρ l;simp only[aa]at this;simp only[aa,V1,gM,BK,this]
theorem Ha (ρ:Nat→Nat)(l:List (List PV))(i:Nat)(r:List PV):gM ρ (l.set i r)=(gM ρ l).set i (fK ρ r):=by
 simp only[dG,co,List.map_set]
theorem yL (ρ:Nat→Nat)(l:List (List PV)):(gM ρ l).length=l.length:=by rw[dG,Wg]
theorem mW (ρ:Nat→Nat)(p:PV):(ren ρ p).one=p.one:=by cases p<;>rfl
theorem oU (ρ:Nat→Nat)(l:List (List PV)):(gM ρ l).flatten=l.flatten.map (ren ρ):=by
 rw[dG,List.map_flatten]
theorem RepP.ren {c c2:Cx}{w:World}{ρ:Nat→Nat}{p:PV}{v:Value}(h:RepP c w p v)(hM:∀d x,RepD c.M w d x→RepD c2.M w d x)(hb:∀k b,c.bl k=some b→c2.bl (ρ k)=some b)(ho:∀k g u,c.ov k g=some u→c2.ov (ρ k) g=some u):RepP c2 w (ren ρ p) v:=by
 induction h with
 |d x v h=>exact .d x v (hM x v h)
 |any v=>exact .any v
 |ptr k off b h=>exact .ptr _ off b (hb _ _ h)
 |own k g v h h1=>exact .own _ g v (ho _ _ _ h) h1
 |rp k g sz i j b n cap h=>exact .rp _ g sz i j b n cap (ho _ _ _ h)
 |osl k g sz a n b o N cap h hn hc h2=>exact .osl _ g sz a n b o N cap (ho _ _ _ h) hn hc h2
 |clo g caps vs hl aV ih=>
  refine .clo g _ vs (by rw[co,Wg];exact hl) fun j d x hj hx=>?_;rw[co,V7,Wh]at hj;obtain⟨y,hy,rfl⟩:=hj;exact ih j y x hy hx
 |agg caps vs hl h1 aV ih=>
  refine .agg _ vs (by rw[co,Wg];exact hl) (fun d hd=>?_) fun j d x hj hx=>?_
  ·rw[co]at hd;obtain⟨y,hy,rfl⟩:=Wp.1 hd;rw[mW];exact h1 y hy
  ·rw[co,V7,Wh]at hj;obtain⟨y,hy,rfl⟩:=hj;exact ih j y x hy hx
 |tup caps vs hl aV ih=>
  refine .tup _ vs (by rw[co,Wg];exact hl) fun j d x hj hx=>?_;rw[co,V7,Wh]at hj;obtain⟨y,hy,rfl⟩:=hj;exact ih j y x hy hx
 |mref k b h=>exact .mref _ b (hb _ _ h)
theorem aZ.ren {c c2:Cx}{w:World}{ρ:Nat→Nat}{ps:List PV}{vs:List Value}(h:aZ c w ps vs)(hM:∀d x,RepD c.M w d x→RepD c2.M w d x)(hb:∀k b,c.bl k=some b→c2.bl (ρ k)=some b)(ho:∀k g u,c.ov k g=some u→c2.ov (ρ k) g=some u):aZ c2 w (ps.map (ren ρ)) vs:=by
 refine⟨by rw[Wg];exact h.1,fun j d x hj hx=>?_⟩;rw[V7,Wh]at hj;obtain⟨y,hy,rfl⟩:=hj;exact(h.2 j y x hy hx).ren hM hb ho
mutual
theorem PB {c c1:Cx}{w:World}{ρ:Nat→Nat}{m:Nat}(hM:∀d x,RepD c.M w d x→RepD c1.M w d x)(hb:∀j,j < m→∀b,c.bl (ρ j)=some b→c1.bl j=some b)(ho:∀j,j < m→∀g u,c.ov (ρ j) g=some u→c1.ov j g=some u):∀(p:PV) (v:Value),ag m p=true→RepP c w (ren ρ p) v→RepP c1 w p v
 | .d x,v,_,h=>by
  simp only[Go.Proofs.YtojojebildofnaaGreatDoor.ren]at h;cases h with|d _ _ h=>exact .d x v (hM x v h)
 | .any,v,_,_=> .any v
 | .ptr k off,v,hk,h=>by
  simp only[Go.Proofs.YtojojebildofnaaGreatDoor.ren]at h;simp only[ag,decide_eq_true_eq]at hk;cases h with|ptr _ _ b h=>exact .ptr k off b (hb k hk b h)
 | .own k g,v,hk,h=>by
  simp only[Go.Proofs.YtojojebildofnaaGreatDoor.ren]at h;simp only[ag,decide_eq_true_eq]at hk;cases h with|own _ _ _ h h1=>exact .own k g v (ho k hk g v h) h1
 | .rp k g sz i j,v,hk,h=>by
  simp only[Go.Proofs.YtojojebildofnaaGreatDoor.ren]at h;simp only[ag,decide_eq_true_eq]at hk;cases h with|rp _ _ _ _ _ b n cap h=>exact .rp k g sz i j b n cap (ho k hk g _ h)
 | .osl k g sz a n,v,hk,h=>by
  simp only[Go.Proofs.YtojojebildofnaaGreatDoor.ren]at h;simp only[ag,decide_eq_true_eq]at hk;cases h with|osl _ _ _ _ _ b o N cap h hn hc h2=>exact .osl k g sz a n b o N cap (ho k hk g _ h) hn hc h2
 | .mref k,v,hk,h=>by
  simp only[Go.Proofs.YtojojebildofnaaGreatDoor.ren]at h;simp only[ag,decide_eq_true_eq]at hk;cases h with|mref _ b h=>exact .mref k b (hb k hk b h)
 | .clo g caps,v,hk,h=>by
  simp only[Go.Proofs.YtojojebildofnaaGreatDoor.ren]at h;simp only[ag]at hk;cases h with
  |clo _ _ vs hl aV=>
   rw[co,Wg]at hl;exact .clo g caps vs hl (nQ hM hb ho caps vs hk aV)
 | .agg caps,v,hk,h=>by
  simp only[Go.Proofs.YtojojebildofnaaGreatDoor.ren]at h;simp only[ag]at hk;cases h with
  |agg _ vs hl h1 aV=>
   rw[co,Wg]at hl;refine .agg caps vs hl (fun d hd=>?_) (nQ hM hb ho caps vs hk aV);rw[←mW ρ];exact h1 _ (by rw[co];exact XC hd)
 | .tup caps,v,hk,h=>by
  simp only[Go.Proofs.YtojojebildofnaaGreatDoor.ren]at h;simp only[ag]at hk;cases h with
  |tup _ vs hl aV=>
   rw[co,Wg]at hl;exact .tup caps vs hl (nQ hM hb ho caps vs hk aV)
theorem nQ {c c1:Cx}{w:World}{ρ:Nat→Nat}{m:Nat}(hM:∀d x,RepD c.M w d x→RepD c1.M w d x)(hb:∀j,j < m→∀b,c.bl (ρ j)=some b→c1.bl j=some b)(ho:∀j,j < m→∀g u,c.ov (ρ j) g=some u→c1.ov j g=some u):∀(l:List PV) (vs:List Value),af m l=true→(∀(j:Nat) (d:PV) (x:Value),(fK ρ l)[j]? =some d→vs[j]? =some x→RepP c w d x)→∀(j:Nat) (d:PV) (x:Value),l[j]? =some d→vs[j]? =some x→RepP c1 w d x
 |[],_,_,_,j,d,x,hj,_=>by simp at hj
 |p::l,[],_,_,j,d,x,_,hx=>by simp at hx
 |p::l,v::vs,hk,h,j,d,x,hj,hx=>by
  simp only[af,Wd]at hk;cases j with
  |zero=>
   have e1:p=d:=by simpa using hj
   have e2:v=x:=by simpa using hx
   rw[←e1,←e2];exact PB hM hb ho p v hk.1 (h 0 _ v rfl rfl)
  |succ j=>exact nQ hM hb ho l vs hk.2 (fun j d x h1 h2=>h (j+1) d x h1 (by simpa using h2)) j d x (by simpa using hj) (by simpa using hx)
end
theorem qU {m:Nat}{rows:List (List PV)}(h:bN m rows=true):af m rows.flatten=true:=by
 induction rows with
 |nil=>rfl
 |cons r rows ih=>
  simp only[bN,Wd]at h;have app:∀(a b:List PV),af m a=true→af m b=true→af m (a++b)=true:=by
   intro a b ha hb;induction a with
   |nil=>exact hb
   |cons x a iha=>
    simp only[af,Wd]at ha;simp only[WH,af,ha.1,iha ha.2,WW]
  rw[Xe];exact app _ _ h.1 (ih h.2)
def EJ:Act:={tmps:=#[],defers:=[]}
structure MSpec (P:Program)(f:Nat)(args:List PV)(h0:List Chunk)(r:PV)(h1:List Chunk):Prop where
 fn:sG P f
 le:h0.length≤h1.length
 ba:af h0.length args=true
 bh:ay h0.length h0=true
 run:∀X:Cfg,X.P=P→X.n=0→X.m=h0.length→∀(w:World) (c:Cx) (vs:List Value),RealC X (bp [] h0) EJ w c→aZ c w args vs→
  Calls P f vs.toArray w fun e w'=>∃v c',e= .returned v∧RepP c' w' r v∧RealC X (bp [] h1) EJ w' c'
def dC:List Nat→Nat→Nat→Nat
 |[],nk,j=>nk+j
 |k::_,_,0=>k
 |_::l,nk,j+1=>dC l nk j
theorem ip:∀(ls:List Nat) (nk j:Nat),dC ls nk (ls.length+j)=nk+j
 |[],nk,j=>by simp[dC]
 |k::l,nk,j=>by
  rw[Wc,show l.length+1+j=(l.length+j)+1 by omega];exact ip l nk j
theorem kP:∀{ls:List Nat}{nk j:Nat},j < ls.length→ls[j]? =some (dC ls nk j)
 |k::l,nk,0,_=>rfl
 |k::l,nk,j+1,h=>by simpa[dC]using kP (ls:=l) (nk:=nk) (j:=j) (by simpa using h)
theorem xg {ls:List Nat}{nk:Nat}(hn:ls.Nodup)(hlt:∀k∈ls,k < nk){i j:Nat}(h:dC ls nk i=dC ls nk j):i=j:=by
 have old:∀i,i < ls.length→dC ls nk i < nk:=fun i hi=>hlt _ (V0 (kP hi));rcases Wv i ls.length with hi|hi<;>rcases Wv j ls.length with hj|hj
 ·have h1:=kP (nk:=nk) hi;have h2:=kP (nk:=nk) hj;rw[h]at h1;rw[VY hi]at h1;rw[VY hj]at h2;have h3:ls[i]=ls[j]:=WD.inj (h1.trans h2.symm);exact(List.getElem_inj (h₀:=hi) (h₁:=hj) hn).1 h3
 ·have:=old i hi;have h2:=ip ls nk (j - ls.length);rw[show ls.length+(j - ls.length)=j by omega]at h2;omega
 ·have:=old j hj;have h2:=ip ls nk (i - ls.length);rw[show ls.length+(i - ls.length)=i by omega]at h2;omega
 ·have h1:=ip ls nk (i - ls.length);have h2:=ip ls nk (j - ls.length);rw[show ls.length+(i - ls.length)=i by omega]at h1;rw[show ls.length+(j - ls.length)=j by omega]at h2;omega
def iq (ρ:Nat→Nat):Nat→List Chunk→List (Nat × Chunk)
 |_,[]=>[]
 |j,c::l=>(ρ j,js ρ c)::iq ρ (j+1) l
def aX (h:Nat→Chunk)(ρ:Nat→Nat):Nat→List Chunk→Prop
 |_,[]=>True
 |j,c::l=>h (ρ j)=js ρ c∧aX h ρ (j+1) l
theorem vN {h:Nat→Chunk}{ρ:Nat→Nat}:∀{l:List Chunk}{i:Nat},aX h ρ i l→∀{j:Nat},j < l.length→h (ρ (i+j))=js ρ (aw l j)
 |c::l,i,⟨h1,h2⟩,0,_=>h1
 |c::l,i,⟨h1,h2⟩,j+1,hj=>by
  have:=vN h2 (j:=j) (by simpa using hj);rw[show i+1+j=i+(j+1) by omega]at this;exact this
theorem p3 (ρ:Nat→Nat):∀(l:List Chunk) (i:Nat),(iq ρ i l).map (·.1)=(WC l.length).map fun j=>ρ (i+j)
 |[],i=>rfl
 |c::l,i=>by
  rw[iq,V1,p3 ρ l (i+1),Wc,List.range_succ_eq_map,V1,Yz];congr 1;refine Xr fun j _=>?_;simp only[Function.comp];rw[show i+1+j=i+(j+1) by omega]
theorem xi {ρ:Nat→Nat}(Qp:∀i j,ρ i=ρ j→i=j){h:Nat→Chunk}:∀(l:List Chunk) (i j:Nat),j < l.length→bS (iq ρ i l) h (ρ (i+j))=js ρ (aw l j)
 |c::l,i,0,_=>by simp[iq,bS,aw]
 |c::l,i,j+1,hj=>by
  simp only[iq,bS];rw[if_neg (fun e=>by have:=Qp _ _ e;omega)];have:=xi Qp (h:=h) l (i+1) j (by simpa using hj);rw[show i+1+j=i+(j+1) by omega]at this;exact this
theorem yM {ρ:Nat→Nat}{h:Nat→Chunk}{k:Nat}:∀(l:List Chunk) (i:Nat),(∀j,j < l.length→ρ (i+j)≠k)→bS (iq ρ i l) h k=h k
 |[],_,_=>rfl
 |c::l,i,hk=>by
  simp only[iq,bS];rw[if_neg (fun e=>hk 0 (by simp) (by simpa using e.symm))];exact yM l (i+1) fun j hj e=>hk (j+1) (by simpa using hj) (by rw[←e];congr 1;omega)
theorem Nw {c c1:Cx}{w:World}{ρ:Nat→Nat}{m j:Nat}{ch:Chunk}(hM:∀d x,RepD c.M w d x→RepD c1.M w d x)(Sm:∀b,c1.M b→c.M b)(hb:∀j,j < m→∀b,c.bl (ρ j)=some b→c1.bl j=some b)(ho:∀j,j < m→∀g u,c.ov (ρ j) g=some u→c1.ov j g=some u)
 (Mk:c1.bl j=c.bl (ρ j)) (OL:c1.ov j=c.ov (ρ j)) (ia:aH m ch=true) (h:ChunkOK c w (ρ j) (js ρ ch)):ChunkOK c1 w j ch:=by
 cases ch with
 |none=>cases h with|none h1 h2=>exact .none (Mk.trans h1) (fun g=>by rw[OL];exact h2 g)
 |gone=>exact .gone
 |mp nB sB ents=>cases h with|mp _ _ _ b hb hh hn=>exact .mp nB sB ents b (Mk.trans hb) hh hn
 |it nB sB ents seen=>cases h with|it _ _ _ _ b bm hb hh hM hm=>exact .it nB sB ents seen b bm (Mk.trans hb) hh (fun h=>hM (Sm _ h)) hm
 |box T cells=>
  cases h with
  |box _ _ b vs h1 h2 h3 h4=>
   refine .box T cells b vs (Mk.trans h1) h2 ⟨by rw[←h3.1,co,Wg],nQ hM hb ho cells vs (by simpa[aH]using ia) h3.2⟩ (fun d hd=>?_);rw[←mW ρ];exact h4 _ (by rw[co];exact XC hd)
 |row E sz g rows=>
  cases h with
  |row _ _ _ _ v xs h1 h2 h3 h4 h5 h6=>
   rw[yL]at h2;rw[oU]at h3;refine .row E sz g rows v xs (by rw[OL];exact h1) h2 ⟨by rw[←h3.1,Wg],nQ (ρ:=ρ) hM hb ho rows.flatten xs (qU (by simpa[aH]using ia)) (fun j d x hj hx=>h3.2 j d x (by rw[←co];exact hj) hx)⟩ (fun r hr=>?_) (fun r hr d hd=>?_) (fun g' hg=>by rw[OL];exact h6 g' hg)
   ·have:=h4 (r.map (ren ρ)) (by rw[dG];exact XC (f:=(List.map (ren ρ))) hr);simpa using this
   ·have:=h5 (r.map (ren ρ)) (by rw[dG];exact XC (f:=(List.map (ren ρ))) hr) (ren ρ d) (XC hd);rwa [mW]at this
theorem Ke {c c2:Cx}{w:World}{ρ:Nat→Nat}{j:Nat}{ch:Chunk}(hM:∀d x,RepD c.M w d x→RepD c2.M w d x)(Sm:∀b,c2.M b→c.M b)(hb:∀k b,c.bl k=some b→c2.bl (ρ k)=some b)(ho:∀k g u,c.ov k g=some u→c2.ov (ρ k) g=some u)
 (Mk:c2.bl (ρ j)=c.bl j) (OL:c2.ov (ρ j)=c.ov j) (h:ChunkOK c w j ch):ChunkOK c2 w (ρ j) (js ρ ch):=by
 cases h with
 |none h1 h2=>exact .none (Mk.trans h1) (fun g=>by rw[OL];exact h2 g)
 |gone=>exact .gone
 |mp nB sB ents b hb hh hn=>exact .mp nB sB ents b (Mk.trans hb) hh hn
 |it nB sB ents seen b bm hb hh hM hm=>exact .it nB sB ents seen b bm (Mk.trans hb) hh (fun h=>hM (Sm _ h)) hm
 |box T cells b vs h1 h2 h3 h4=>
  refine .box T _ b vs (Mk.trans h1) h2 (by rw[co];exact h3.ren hM hb ho) (fun d hd=>?_);rw[co]at hd;obtain⟨y,hy,rfl⟩:=Wp.1 hd;rw[mW];exact h4 y hy
 |row E sz g rows v xs h1 h2 h3 h4 h5 h6=>
  refine .row E sz g _ v xs (by rw[OL];exact h1) (by rw[yL];exact h2) (by rw[oU];exact h3.ren hM hb ho) (fun r hr=>?_) (fun r hr d hd=>?_) (fun g' hg=>by rw[OL];exact h6 g' hg)
  ·rw[dG]at hr;obtain⟨y,hy,rfl⟩:=Wp.1 hr;rw[Wg];exact h4 y hy
  ·rw[dG]at hr;obtain⟨y,hy,rfl⟩:=Wp.1 hr;obtain⟨z,hz,rfl⟩:=Wp.1 hd;rw[mW];exact h5 y hy z hz
theorem vO {c c1:Cx}{ρ:Nat→Nat}{j:Nat}{ch:Chunk}(hb:c1.bl j=c.bl (ρ j))(ho:c1.ov j=c.ov (ρ j)):c1.block j ch=c.block (ρ j) (js ρ ch):=by
 cases ch<;>simp[Cx.block,js,hb,ho]
theorem j9:∀(l:List Chunk) (k:Nat),l.length≤k→aw l k= .none
 |[],_,_=>rfl
 |c::l,0,h=>by simp at h
 |c::l,k+1,h=>by simpa[aw]using j9 l k (by simpa using h)
theorem RealC.back {X:Cfg}{s:FS}{a:Act}{w w':World}{c c2:Cx}(hc:RealC X s a w c){h0 h1:List Chunk}{ls:List Nat}{nk:Nat}{X1:Cfg}(Sn:X1.w0=w∧X1.m=h0.length∧
 (∀b,X1.L b↔∃j,j < h0.length∧c.block (dC ls nk j) (s.heap (dC ls nk j))=some b)∧(∀b,X1.M0 b↔c.M b∧¬X1.L b)∧(∀j,j < h0.length→X1.c0.bl j=c.bl (dC ls nk j)∧X1.c0.ov j=c.ov (dC ls nk j)))
 (TJ:h0.length≤h1.length) (hl:ls.length=h0.length) (jX:ls.Nodup) (hlt:∀k∈ls,k < nk) (gE:∀i,h0.length+i < h1.length→s.heap (nk+i)= .none) (Gc:X.m≤nk)
 (h:RealC X1 (bp [] h1) EJ w' c2) {p:PV}{v:Value} (hp:RepP c2 w' p v):
 ∃c3,RealC X {s with heap:=bS (iq (dC ls nk) 0 h1) s.heap} a w' c3∧RepP c3 w' (ren (dC ls nk) p) v:=by
 obtain⟨OM,So,hL,TK,Gu⟩:=Sn;generalize hρ:dC ls nk=ρ at*;have inj:∀i j,ρ i=ρ j→i=j:=fun i j e=>by rw[←hρ]at e;exact xg jX hlt e
 have new_id:∀i,ρ (h0.length+i)=nk+i:=fun i=>by rw[←hρ,←hl];exact ip ls nk i
 have old_id:∀j,j < h0.length→ρ j < nk:=fun j hj=>by rw[←hρ];exact hlt _ (V0 (kP (by omega)))
 have new_none:∀j,h0.length≤j→j < h1.length→s.heap (ρ j)= .none:=fun j h2 h3=>by
  have:=new_id (j - h0.length);rw[show h0.length+(j - h0.length)=j by omega]at this;rw[this];exact gE _ (by omega)
 have fZ:=h.lent;rw[So]at fZ;let c3:Cx:={M:=c2.M,bl:=fun k=>open Classical in if e:∃j,j < h1.length∧ρ j=k then c2.bl e.choose else c.bl k,ov:=fun k=>open Classical in if e:∃j,j < h1.length∧ρ j=k then c2.ov e.choose else c.ov k}
 have in_bl:∀j,j < h1.length→c3.bl (ρ j)=c2.bl j∧c3.ov (ρ j)=c2.ov j:=by
  intro j hj;have e:∃i,i < h1.length∧ρ i=ρ j:=⟨j,hj,rfl⟩;have e2:=inj _ _ e.choose_spec.2;refine⟨?_,?_⟩
  ·show (if e:∃i,i < h1.length∧ρ i=ρ j then c2.bl e.choose else c.bl (ρ j))=_;rw[dif_pos e,e2]
  ·show (if e:∃i,i < h1.length∧ρ i=ρ j then c2.ov e.choose else c.ov (ρ j))=_;rw[dif_pos e,e2]
 have off_bl:∀k,(∀j,j < h1.length→ρ j≠k)→c3.bl k=c.bl k∧c3.ov k=c.ov k:=by
  intro k hk;have e:¬∃j,j < h1.length∧ρ j=k:=fun⟨j,h1,h2⟩=>hk j h1 h2;refine⟨?_,?_⟩
  ·show (if e:∃i,i < h1.length∧ρ i=k then c2.bl e.choose else c.bl k)=_;rw[dif_neg e]
  ·show (if e:∃i,i < h1.length∧ρ i=k then c2.ov e.choose else c.ov k)=_;rw[dif_neg e]
 have far:∀j,h1.length≤j→c2.bl j=none∧∀g,c2.ov j g=none:=by
  intro j hj;have:=h.chunk j;rw[show (bp [] h1).heap j= .none from j9 h1 j hj]at this;cases this with|none a b=>exact⟨a,b⟩
 have fwd_b:∀k b,c2.bl k=some b→c3.bl (ρ k)=some b:=by
  intro k b hb;rcases Wv k h1.length with hk|hk
  ·rw[(in_bl k hk).1];exact hb
  ·rw[(far k hk).1]at hb;cases hb
 have fwd_o:∀k g u,c2.ov k g=some u→c3.ov (ρ k) g=some u:=by
  intro k g u hu;rcases Wv k h1.length with hk|hk
  ·rw[(in_bl k hk).2];exact hu
  ·rw[(far k hk).2]at hu;cases hu
 have lent_bl:∀j,j < h0.length→c2.bl j=c.bl (ρ j)∧∀g u,c.ov (ρ j) g=some u→c2.ov j g=some u:=by
  intro j hj;obtain⟨q1,q2⟩:=fZ j hj;obtain⟨q3,q4⟩:=Gu j hj;exact⟨q1.trans q3,fun g u hu=>q2 g u (by rw[q4];exact hu)⟩
 have hle:c.le c3:=by
  refine⟨fun k b hb=>?_,fun k g u hu=>?_⟩
  ·by_cases e:∃j,j < h1.length∧ρ j=k
   ·obtain⟨j,hj,rfl⟩:=e;rw[(in_bl j hj).1];rcases Wv j h0.length with h2|h2
    ·rw[(lent_bl j h2).1];exact hb
    ·have:=hc.chunk (ρ j);rw[new_none j h2 hj]at this;cases this with|none a b2=>rw[a]at hb;cases hb
   ·rw[(off_bl k fun j hj e2=>e ⟨j,hj,e2⟩).1];exact hb
  ·by_cases e:∃j,j < h1.length∧ρ j=k
   ·obtain⟨j,hj,rfl⟩:=e;rw[(in_bl j hj).2];rcases Wv j h0.length with h2|h2
    ·exact(lent_bl j h2).2 g u hu
    ·have:=hc.chunk (ρ j);rw[new_none j h2 hj]at this;cases this with|none a b2=>rw[b2]at hu;cases hu
   ·rw[(off_bl k fun j hj e2=>e ⟨j,hj,e2⟩).2];exact hu
 have blk_in:∀j,j < h1.length→c3.block (ρ j) (bS (iq ρ 0 h1) s.heap (ρ j))=c2.block j (aw h1 j):=by
  intro j hj;have e:=xi inj (h:=s.heap) h1 0 j hj;rw[Wn]at e;rw[e];exact(vO (in_bl j hj).1.symm (in_bl j hj).2.symm).symm
 have blk_off:∀k,(∀j,j < h1.length→ρ j≠k)→bS (iq ρ 0 h1) s.heap k=s.heap k∧c3.block k (s.heap k)=c.block k (s.heap k):=by
  intro k hk;refine⟨yM h1 0 fun j hj=>by rw[Wn];exact hk j hj,?_⟩;obtain⟨q1,q2⟩:=off_bl k hk;cases s.heap k<;>simp[Cx.block,q1,q2]
 have blk_far:∀j b,c2.block j (aw h1 j)=some b→j < h1.length:=by
  intro j b hb;rcases Wv j h1.length with hj|hj
  ·exact hj
  ·rw[j9 h1 j hj]at hb;cases hb
 have nh:=h.ext;rw[OM]at nh;have L_M:∀b,X1.L b→c.M b:=fun b hb=>by
  obtain⟨j,hj,e⟩:=(hL b).1 hb;exact(hc.mu b).2 (.inr ⟨_,e⟩)
 have L_new:∀b,X1.L b→X.L b∨X.w0.heap.size≤b:=fun b hb=>by
  obtain⟨j,hj,e⟩:=(hL b).1 hb;exact(hc.new _ b e).1
 have Qq:=h.mu;have lM:Keep c.M w c3.M w':=by
  refine⟨nh.size,fun b hb hm=>nh.block b hb (fun e=>hm (L_M b e)),fun b hb hm=>?_⟩;rcases(Qq b).1 hm with h2|⟨k,h2⟩
  ·exact((TK b).1 h2).1
  ·rcases(h.new k b h2).1 with h3|h3
   ·exact L_M b h3
   ·rw[OM]at h3;omega
 have off_L:∀k b,(∀j,j < h1.length→ρ j≠k)→c.block k (s.heap k)=some b→¬X1.L b:=by
  intro k b hk hb hb';obtain⟨j,hj,e⟩:=(hL b).1 hb';exact hk j (by omega) (hc.apart _ _ b e hb)
 refine⟨c3,⟨hc.size,hc.defers,?_,hc.inv,hc.fresh,fun b=>?_,fun k b hb=>?_,fun k k' b hb hb'=>?_,fun t=>(hc.env t).keep hle lM,fun k=>?_,fun k hk=>?_⟩,hp.ren (c2:=c3) (fun _ _ h=>h) fwd_b fwd_o⟩
 ·refine⟨nh.os.trans hc.ext.os,nh.tape.trans hc.ext.tape,nh.output.trans hc.ext.output,W6 hc.ext.size nh.size,fun b hb yd=>?_⟩;refine(nh.block b (W4 hb hc.ext.size) fun e=>?_).trans (hc.ext.block b hb yd);rcases L_new b e with h2|h2
  ·exact yd h2
  ·omega
 ·show c2.M b↔_;rw[Qq b,TK b,hc.mu b];constructor
  ·rintro (⟨h2|⟨k,h2⟩,h3⟩|⟨j,h2⟩)
   ·exact .inl h2
   ·refine .inr ⟨k,?_⟩;have hk:∀j,j < h1.length→ρ j≠k:=fun j hj e=>by
     subst e;rcases Wv j h0.length with h4|h4
     ·exact h3 ((hL b).2 ⟨j,h4,h2⟩)
     ·rw[new_none j h4 hj]at h2;cases h2
    simp only[(blk_off k hk).1,(blk_off k hk).2];exact h2
   ·refine .inr ⟨ρ j,?_⟩;simp only[blk_in j (blk_far j b h2)];exact h2
  ·rintro (h2|⟨k,h2⟩)
   ·refine .inl ⟨.inl h2,fun e=>?_⟩;obtain⟨h3,h4⟩:=hc.fresh b h2;rcases L_new b e with h5|h5
    ·exact h4 h5
    ·omega
   ·simp only at h2;by_cases e:∃j,j < h1.length∧ρ j=k
    ·obtain⟨j,hj,rfl⟩:=e;rw[blk_in j hj]at h2;exact .inr ⟨j,h2⟩
    ·have hk:∀j,j < h1.length→ρ j≠k:=fun j hj e2=>e ⟨j,hj,e2⟩;rw[(blk_off k hk).1,(blk_off k hk).2]at h2;exact .inl ⟨.inr ⟨k,h2⟩,off_L k b hk h2⟩
 ·simp only at hb;by_cases e:∃j,j < h1.length∧ρ j=k
  ·obtain⟨j,hj,rfl⟩:=e;rw[blk_in j hj]at hb;obtain⟨h2,h3⟩:=h.new j b hb;refine⟨?_,h3⟩;rcases h2 with h2|h2
   ·exact L_new b h2
   ·rw[OM]at h2;exact .inr (W6 hc.ext.size h2)
  ·have hk:∀j,j < h1.length→ρ j≠k:=fun j hj e2=>e ⟨j,hj,e2⟩;rw[(blk_off k hk).1,(blk_off k hk).2]at hb;exact⟨(hc.new k b hb).1,W4 (hc.new k b hb).2 nh.size⟩
 ·simp only at hb hb';have av:∀j k,j < h1.length→(∀j,j < h1.length→ρ j≠k)→c2.block j (aw h1 j)=some b→c.block k (s.heap k)=some b→False:=by
   intro j k hj hk h2 h3;rcases(h.new j b h2).1 with h4|h4
   ·exact off_L k b hk h3 h4
   ·have:=(hc.new k b h3).2;rw[OM]at h4;omega
  by_cases e:∃j,j < h1.length∧ρ j=k
  ·obtain⟨j,hj,rfl⟩:=e;rw[blk_in j hj]at hb;by_cases e':∃j,j < h1.length∧ρ j=k'
   ·obtain⟨j',hj',rfl⟩:=e';rw[blk_in j' hj']at hb';rw[h.apart j j' b hb hb']
   ·have hk:∀j,j < h1.length→ρ j≠k':=fun j hj e2=>e' ⟨j,hj,e2⟩;rw[(blk_off k' hk).1,(blk_off k' hk).2]at hb';exact(av j k' hj hk hb hb').elim
  ·have hk:∀j,j < h1.length→ρ j≠k:=fun j hj e2=>e ⟨j,hj,e2⟩;rw[(blk_off k hk).1,(blk_off k hk).2]at hb;by_cases e':∃j,j < h1.length∧ρ j=k'
   ·obtain⟨j',hj',rfl⟩:=e';rw[blk_in j' hj']at hb';exact(av j' k hj' hk hb' hb).elim
   ·have hk':∀j,j < h1.length→ρ j≠k':=fun j hj e2=>e' ⟨j,hj,e2⟩;rw[(blk_off k' hk').1,(blk_off k' hk').2]at hb';exact hc.apart k k' b hb hb'
 ·simp only;by_cases e:∃j,j < h1.length∧ρ j=k
  ·obtain⟨j,hj,rfl⟩:=e;have e2:=xi inj (h:=s.heap) h1 0 j hj;rw[Wn]at e2;rw[e2];exact Ke (c:=c2) (c2:=c3) (fun _ _ h=>h) (fun _ h=>h) fwd_b fwd_o (in_bl j hj).1 (in_bl j hj).2 (h.chunk j)
  ·have hk:∀j,j < h1.length→ρ j≠k:=fun j hj e2=>e ⟨j,hj,e2⟩;rw[(blk_off k hk).1];exact(hc.chunk k).keep hle lM (fun b hb=>nh.block b (hc.new k b hb).2 (off_L k b hk hb)) (off_bl k hk).1 (off_bl k hk).2
 ·obtain⟨q1,q2⟩:=hc.lent k hk;by_cases e:∃j,j < h1.length∧ρ j=k
  ·obtain⟨j,hj,rfl⟩:=e;have TL:j < h0.length:=by
    rcases Wv j h0.length with h2|h2
    ·exact h2
    ·have:=new_id (j - h0.length);rw[show h0.length+(j - h0.length)=j by omega]at this;omega
   rw[(in_bl j hj).1,(in_bl j hj).2];exact⟨(lent_bl j TL).1.trans q1,fun g u hu=>(lent_bl j TL).2 g u (q2 g u hu)⟩
  ·have hk':∀j,j < h1.length→ρ j≠k:=fun j hj e2=>e ⟨j,hj,e2⟩;rw[(off_bl k hk').1,(off_bl k hk').2];exact⟨q1,q2⟩
theorem RealC.lend {X:Cfg}{s:FS}{a:Act}{w:World}{c:Cx}(hc:RealC X s a w c){h0:List Chunk}{ls:List Nat}{nk:Nat}(hl:ls.length=h0.length)(jX:ls.Nodup)(hlt:∀k∈ls,k < nk)(ia:ay h0.length h0=true)(fZ:aX s.heap (dC ls nk) 0 h0):
 ∃X1 c1,(X1.P=X.P∧X1.n=0∧X1.m=h0.length)∧(X1.w0=w∧X1.m=h0.length∧
  (∀b,X1.L b↔∃j,j < h0.length∧c.block (dC ls nk j) (s.heap (dC ls nk j))=some b)∧(∀b,X1.M0 b↔c.M b∧¬X1.L b)∧(∀j,j < h0.length→X1.c0.bl j=c.bl (dC ls nk j)∧X1.c0.ov j=c.ov (dC ls nk j)))∧
  RealC X1 (bp [] h0) EJ w c1∧(∀(ps:List PV) (vs:List Value),af h0.length ps=true→aZ c w (fK (dC ls nk) ps) vs→aZ c1 w ps vs):=by
 generalize hρ:dC ls nk=ρ at*;have inj:∀i j,ρ i=ρ j→i=j:=fun i j e=>by rw[←hρ]at e;exact xg jX hlt e
 let c1:Cx:={M:=c.M,bl:=fun j=>if j < h0.length then c.bl (ρ j)else none,ov:=fun j g=>if j < h0.length then c.ov (ρ j) g else none}
 have b1:∀j,j < h0.length→c1.bl j=c.bl (ρ j)∧c1.ov j=c.ov (ρ j):=fun j hj=>⟨if_pos hj,funext fun g=>if_pos hj⟩;have lent:∀j,j < h0.length→s.heap (ρ j)=js ρ (aw h0 j):=fun j hj=>by
  have:=vN fZ (j:=j) hj;rwa [Wn]at this
 have ng:∀j,j < h0.length→c1.block j (aw h0 j)=c.block (ρ j) (s.heap (ρ j)):=fun j hj=>by
  rw[lent j hj];exact vO (b1 j hj).1 (b1 j hj).2
 have far:∀j b,c1.block j (aw h0 j)=some b→j < h0.length:=fun j b hb=>by
  rcases Wv j h0.length with hj|hj
  ·exact hj
  ·rw[j9 h0 j hj]at hb;cases hb
 have hb:∀j,j < h0.length→∀b,c.bl (ρ j)=some b→c1.bl j=some b:=fun j hj b h=>by rw[(b1 j hj).1];exact h
 have ho:∀j,j < h0.length→∀g u,c.ov (ρ j) g=some u→c1.ov j g=some u:=fun j hj g u h=>by rw[(b1 j hj).2];exact h
 have below_at:∀(l:List Chunk) (j:Nat),ay h0.length l=true→aH h0.length (aw l j)=true:=fun l j h=>pZ h j;refine⟨{P:=X.P,n:=0,m:=h0.length,w0:=w,M0:=fun b=>c.M b∧¬∃j,j < h0.length∧c.block (ρ j) (s.heap (ρ j))=some b,L:=fun b=>∃j,j < h0.length∧c.block (ρ j) (s.heap (ρ j))=some b,c0:=c1},c1,⟨rfl,rfl,rfl⟩,
  ⟨rfl,rfl,fun b=>Iff.rfl,fun b=>Iff.rfl,fun j hj=>b1 j hj⟩,⟨rfl,rfl,ExtL.refl _ _,hc.ginv.keep ⟨Wa _,fun _ _ _=>rfl,fun b _ h=>h.elim And.left fun⟨j,_,hj⟩=>(hc.mu b).2 (.inr ⟨_,hj⟩)⟩,fun b hb=>⟨hc.lt hb.1,hb.2⟩,fun b=>?_,fun k b hk=>?_,fun k k' b hk hk'=>?_,fun t=> .any _,fun k=>?_,fun k _=>⟨rfl,fun _ _ h=>h⟩⟩,fun ps vs jn hr=>?_⟩
 ·show c.M b↔_;by_cases e:∃j,j < h0.length∧c.block (ρ j) (s.heap (ρ j))=some b
  ·constructor
   ·intro _;obtain⟨j,hj,h2⟩:=e;exact .inr ⟨j,by rw[show (bp [] h0).heap j=aw h0 j from rfl,ng j hj];exact h2⟩
   ·intro _;obtain⟨j,hj,h2⟩:=e;exact(hc.mu b).2 (.inr ⟨_,h2⟩)
  ·constructor
   ·intro hm;exact .inl ⟨hm,e⟩
   ·rintro (h2|⟨j,h2⟩)
    ·exact h2.1
    ·have hj:=far j b h2;exact absurd ⟨j,hj,by rw[←ng j hj];exact h2⟩ e
 ·have hj:=far k b hk;have h2:c.block (ρ k) (s.heap (ρ k))=some b:=by rw[←ng k hj];exact hk
  exact⟨.inl ⟨k,hj,h2⟩,(hc.new _ b h2).2⟩
 ·have hj:=far k b hk;have hj':=far k' b hk';have h2:c.block (ρ k) (s.heap (ρ k))=some b:=by rw[←ng k hj];exact hk
  have h3:c.block (ρ k') (s.heap (ρ k'))=some b:=by rw[←ng k' hj'];exact hk'
  exact inj _ _ (hc.apart _ _ b h2 h3)
 ·rcases Wv k h0.length with hk|hk
  ·have bn:=hc.chunk (ρ k);rw[lent k hk]at bn;exact Nw (c:=c) (c1:=c1) (ρ:=ρ) (fun _ _ h=>h) (fun _ h=>h) hb ho (b1 k hk).1 (b1 k hk).2 (below_at h0 k ia) bn
  ·rw[show (bp [] h0).heap k= .none from j9 h0 k hk];exact .none (if_neg (by omega)) fun g=>if_neg (by omega)
 ·exact⟨by rw[←hr.1,co,Wg],nQ (c:=c) (c1:=c1) (ρ:=ρ) (fun _ _ h=>h) hb ho ps vs jn hr.2⟩
theorem qV {h h':Nat→Chunk}{ρ:Nat→Nat}:∀{l:List Chunk}{i:Nat},aX h ρ i l→(∀j,j < l.length→h' (ρ (i+j))=h (ρ (i+j)))→aX h' ρ i l
 |[],_,_,_=>trivial
 |c::l,i,⟨h1,h2⟩,hs=>⟨(hs 0 (by simp)).trans h1,qV h2 fun j hj=>by
  have:=hs (j+1) (by simpa using hj);rw[show i+1+j=i+(j+1) by omega];exact this⟩
theorem yN {X:Cfg}{ops:Array Oper}{s:FS}{o:Oper}(hd:∀d,o.dst=some d→d < X.n){fo:Operand}{args:Array Operand}{tys:Array Nat}{g:Nat}{caps margs:List PV}{h0 h1:List Chunk}{r:PV}{ls:List Nat}{nk:Nat}(ho:o.op= .call {callee:= .value fo,args:=args,argTypes:=tys})
 (hf:ev s fo= .clo g caps∨∃cd:List D,ev s fo= .d (.clo g cd)∧caps=cd.map .d) (hM:MSpec X.P g margs h0 r h1) (ha:args.toList.map (ev s)++caps=fK (dC ls nk) margs)
 (hl:ls.length=h0.length) (jX:ls.Nodup) (hlt:∀k∈ls,k < nk) (fZ:aX s.heap (dC ls nk) 0 h0) (gE:∀i,h0.length+i < h1.length→s.heap (nk+i)= .none) (Gc:X.m≤nk):
 bj X ops s o {pv:=ren (dC ls nk) r,eff:=iq (dC ls nk) 0 h1,touch:=(WC h1.length).map (dC ls nk)}:=by
 refine⟨hd,fun kc h=>?_,fun s' he fj a w hr K Q hK=>?_⟩
 ·have h2:=XC (f:=(·.1)) h;rw[p3]at h2;simpa using h2
 obtain⟨c,hc⟩:=hr;have g7:∀j,j < h1.length→s'.heap (dC ls nk j)=s.heap (dC ls nk j):=fun j hj=>fj _ (XC (Xk.2 hj));have ON:=qV (h':=s'.heap) fZ fun j hj=>by
  rw[Wn];exact g7 j (W4 hj hM.le)
 have Qr:∀i,h0.length+i < h1.length→s'.heap (nk+i)= .none:=fun i hi=>by
  have:=ip ls nk i;rw[hl]at this;rw[←this,g7 _ hi,this];exact gE i hi
 have qJ:∀x,(x=fo∨x∈args)→ev s' x=ev s x:=fun x hx=>wY he x (by
  rw[ho];simp only[Op.operands,Call.operands];rcases hx with rfl|hx
  ·simp
  ·simp[hx])
 obtain⟨fvs,OJ,rU,Bl⟩:∃fvs:List Value,a.eval fo= .func (.func g) #[] fvs.toArray∧caps.length=fvs.length∧∀(j:Nat) (p:PV) (x:Value),caps[j]? =some p→fvs[j]? =some x→RepP c w p x:=by
  have h0:=bo hc fo;rw[qJ fo (.inl rfl)]at h0;rcases hf with hf|⟨cd,hf,rfl⟩
  ·rw[hf]at h0;generalize a.eval fo=u at h0;cases h0 with
   |clo _ _ vs hl aV=>exact⟨vs,rfl,hl,aV⟩
  ·rw[hf]at h0;generalize a.eval fo=u at h0;have h0:=bA h0;cases h0 with
   |clo _ _ vs hl aV=>
    refine⟨vs,rfl,by simpa using hl,fun j p x hj hx=>?_⟩;simp only[V7,Wh]at hj;obtain⟨y,hy,rfl⟩:=hj;exact .d _ _ (aV j y x hy hx)
 have wQ:aZ c w (fK (dC ls nk) margs) (args.toList.map a.eval++fvs):=by
  rw[←ha];refine⟨by simp[rU],fun j p x hp hx=>?_⟩;by_cases hlt:j < args.toList.length
  ·rw[WK (by simpa using hlt)]at hp hx;simp only[V7,Wh]at hp hx;obtain⟨y,hy,rfl⟩:=hp;obtain⟨y',hy',rfl⟩:=hx;rw[hy]at hy';cases hy';have:=bo hc y;rwa [qJ y (.inr (by simpa using V0 hy))]at this
  ·rw[Wq (by simpa using hlt)]at hp hx;simp only[Wg]at hp hx;exact Bl _ p x hp hx
 obtain⟨X1,c1,⟨e1,e2,e3⟩,Sn,ur,jn⟩:=hc.lend hl jX hlt hM.bh ON;have fY:=hM.run X1 e1 e2 e3 w c1 (args.toList.map a.eval++fvs) ur (jn _ _ hM.ba wQ);have bG:(execOp a.eval o).run X.P w= .ok (.enter g (args.toList.map a.eval++fvs).toArray) w:=by
  have e:(args.toList.map a.eval++fvs).toArray=args.map a.eval++fvs.toArray:=by
   apply YA;simp
  rw[e];simp[execOp,ho,resolve,OJ,Deferred.ofValue,invoke];exact hM.fn _ _
 unfold Oper.wp;rw[bG,Oper.upon_enter];refine fY.mono ?_;rintro e w' ⟨v,c2,rfl,hv,x7⟩;obtain⟨c3,g1,g2⟩:=hc.back Sn hM.le hl jX hlt Qr Gc x7 hv;exact hK v w' ⟨c3,g1.put g2 hd⟩
theorem vP:∀{eff:List (Nat × Chunk)}{h:Nat→Chunk},(∀kc∈eff,h kc.1=kc.2)→bS eff h=h
 |[],_,_=>rfl
 |(k,c)::l,h,hs=>by
  funext k';simp only[bS];split
  ·rename_i e;subst e;exact(hs (k',c) (List.mem_cons_self ..)).symm
  ·rw[vP fun kc hk=>hs kc (by simp[hk])]
theorem Kf {X:Cfg}{ops:Array Oper}{s:FS}{o:Oper}{r:Res}(h:bj X ops s o r)(he:∀kc∈r.eff,s.heap kc.1=kc.2):bj X ops s o {r with eff:=[]}:=by
 refine⟨h.1,by simp,fun s' h1 h2 a w hr K Q hK=>h.2.2 s' h1 h2 a w hr K Q fun v w' hr'=>hK v w' ?_⟩;have:bS r.eff s'.heap=s'.heap:=vP fun kc hk=>by rw[h2 _ (h.2.1 kc hk)];exact he kc hk
 have e2:s'.app o.dst r=s'.app o.dst {r with eff:=[]}:=by
  unfold FS.app;rw[this];rfl
 rw[←e2];exact hr'
theorem vQ {h:Nat→Chunk}{ρ:Nat→Nat}:∀{l:List Chunk}{i:Nat},aX h ρ i l→∀kc∈iq ρ i l,h kc.1=kc.2
 |[],_,_,kc,hk=>by simp[iq]at hk
 |c::l,i,⟨h1,h2⟩,kc,hk=>by
  simp only[iq,WI]at hk;rcases hk with rfl|hk
  ·exact h1
  ·exact vQ h2 kc hk
theorem Hb {X:Cfg}{ops:Array Oper}{s:FS}{o:Oper}(hd:∀d,o.dst=some d→d < X.n){fo:Operand}{args:Array Operand}{tys:Array Nat}{g:Nat}{caps margs:List PV}{h0:List Chunk}{r:PV}{ls:List Nat}{nk:Nat}(ho:o.op= .call {callee:= .value fo,args:=args,argTypes:=tys})
 (hf:ev s fo= .clo g caps∨∃cd:List D,ev s fo= .d (.clo g cd)∧caps=cd.map .d) (hM:MSpec X.P g margs h0 r h0) (ha:args.toList.map (ev s)++caps=fK (dC ls nk) margs)
 (hl:ls.length=h0.length) (jX:ls.Nodup) (hlt:∀k∈ls,k < nk) (fZ:aX s.heap (dC ls nk) 0 h0) (Gc:X.m≤nk):
 bj X ops s o {pv:=ren (dC ls nk) r,eff:=[],touch:=(WC h0.length).map (dC ls nk)}:=
 Kf (yN hd ho hf hM ha hl jX hlt fZ (fun i hi=>by omega) Gc) (vQ fZ)
end Go.Proofs.YtojojebildofnaaGreatDoor
