/- TreeWalk: a part of its proof; conditions: its statement's. -/
import Derived.Test.YtdonpgpfplgigaaGreatM05
import Derived.Shelf.Spec.SlicesInsertGrow
import Derived.Deep.RegionLaw
import Derived.Lib.AppendZerosOnto
import Derived.Laws.NewBlocks
import Derived.Test.YtdonpgpfplgigaaGreatM02
set_option linter.defProp false
namespace Go.Proofs.YtdonpgpfplgigaaGreat.Am
open Go Go.Lib
def eo:=@Tryz.underlying89
def yY:=@Tryz.func52
def Lk:=@Tryz.func116
def Ll:=@Tryz.func32
variable {ts:Array TypeId} {X Y:aE} {C:gE} {code:Code} {d:rZ} {ε ag:bE} {A:bE→aE} {pg:bE→Int→List Nat} {lv dd:bE→Prop} {Q:Ex→List (Nat×V)→H→Prop} {fn:Func} {h:H} {P':Int→List Nat} {lo:Ky} {now:List (Int×List Nat)} {cs cs':List (List Nat)} {E:List (Nat×V)} {S:List aE} {es jA eL eR:List En} {ks:List gG} {Ch:List gG→Nat→Prop} {b ps c R M M' data pO was Z ot:List Nat} {us args caps:List V} {a l k i x n N B id off kd link extra j tW g q r aN L K tx bk lk root:Nat} {F:Nat→List (List Nat)→Prop} {ox oy:Operand} {hi:Option Ky} {P:Program} {α:Type} {t te t' e:TypeId} {rv y u z bv cv w kv pv:V}
set_option maxHeartbeats 4000000 in
set_option maxRecDepth 100000 in
theorem SG (b off n c i vb I m vc:Nat)(cs vs:List Value)(w:World)(hi:i<n)(hm:0<m)(nh:n+m≤c)(yP:n+m≤9223372036854775807)(SH:vb≠b)(gy:cs.length=n)(Lm:vs.length=m)
 (lz:∀j v,cs[j]?=some v→w.cell? ⟨b,off+j,none⟩=some v)(gm:∀j,j<n+m→(w.cell? ⟨b,off+j,none⟩).isSome=true)(tU:∀j,j<n+m→w.frozen? ⟨b,off+j,none⟩=false)
 (Xn:∀j v,vs[j]?=some v→w.cell? ⟨vb,I+j,none⟩=some v)(N8:∀v∈cs,v.oneCell'=true)(N9:∀v∈vs,v.oneCell'=true)
 (tA tB:TypeId)(kA kB:Nat)(hsa:w.shape? vb=some (tA,kA))(W_:w.shape? b=some (tB,kB))(hkB:kB≠0)(ZJ:w.frozen? ⟨vb,I,none⟩=false)(hfe:w.frozen? ⟨vb,kA,none⟩=false):
  Calls Tryz.prog 52 #[.slice (some ⟨b,off,none⟩) n c,.int .i64 i,.slice (some ⟨vb,I,none⟩) m vc] w fun e w' =>
   e=.returned (.slice (some ⟨b,off,none⟩) (n+m) c)∧w'=(w.drew.setCells b (off+(i+m)) (cs.drop i)).setCells b (off+i) vs:=by
 have DU:¬ ((m:Int)=0):=by omega
 have KK:¬ ((i:Int)=(n:Int)):=by omega
 have fJ:(Tryz.prog.info? 29).map (·.size)=some 1:=by kernel_rfl
 have hov:∀lb cb,(callFunc 128 #[.slice (some ⟨vb,I,none⟩) m vc,.slice (some ⟨b,off+(i+m),none⟩) lb cb]).run Tryz.prog w=.ok (.value (.bool false)) w:=fun lb cb=>by
  rw[run_callFunc_extern Tryz.func128 (by kernel_rfl) (by kernel_rfl) (by kernel_rfl) (e:=Extern.SlicesOverlaps.overlaps #[98,98] #[4]) (by kernel_rfl),
   Lib.run_overlaps_apart w 98 4 29 aP 1 (fun w=>Tryz.sizeOf29 w) ⟨vb,I,none⟩ ⟨b,off+(i+m),none⟩ m vc lb cb SH tA tB kA kB hsa W_ hkB ZJ hfe]
  rfl
 have AV:(cs.drop i).length=n-i:=by rw[fc,gy]
 have J7:IntKind.i64.wrap ((i:Int)+(m:Int))=(i:Int)+(m:Int):=by rw[IntKind.wrap_i64];omega
 have lT:(0:Int)≤(i:Int)+(m:Int):=by omega
 have xb:i≤n:=by omega
 have htn:((i:Int)+(m:Int)).toNat=i+m:=by omega
 have qa:¬ (c=i+m):=by omega
 have M8:(i:Int)≤(n:Int)+(m:Int):=by omega
 have hb4:¬ (c=i):=by omega
 have aaY:∀ty dc sc,(Builtin.copy_ #[98,98] ty #[.slice (some ⟨b,off+(i+m),none⟩) (n+m-(i+m)) dc,.slice (some ⟨b,off+i,none⟩) (n+m-i) sc]).run Tryz.prog w.drew=.ok (goInt (cs.drop i).length) (w.drew.setCells b (off+(i+m)) (cs.drop i)):=fun ty dc sc =>
  run_copy_cells w.drew _ _ ty 29 b (off+(i+m)) (n+m-(i+m)) dc ⟨b,off+i,none⟩ (n+m-i) sc (cs.drop i) aP fJ (by rw[AV];simp only[C4];split<;>omega)
   (fun j v hj=>by rw[Addr.add_lit,oD];exact lz (i+j) v (by rwa [fb] at hj))
   (fun j hj=>by rw[oD];exact gm _ (by omega)) (fun j hj=>by rw[oD];exact tU _ (by omega)) (fun v hv=>N8 v (jh hv))
 obtain⟨W1,A7⟩:∃W1,W1=w.drew.setCells b (off+(i+m)) (cs.drop i):=⟨_,rfl⟩
 have Ax:∀k,k<n+m→(W1.cell? ⟨b,off+k,none⟩).isSome=true:=fun k hk=>by
  rw[A7]
  exact isSome_setCells b _ _ _ (fun j hj=>by rw[oD];exact gm _ (by omega)) _ (gm k hk)
 have adx:∀(W:World),(∀x,W.cell? x=W1.cell? x)→(∀x,W.frozen? x=W1.frozen? x)→∀ty dc,(Builtin.copy_ #[98,98] ty #[.slice (some ⟨b,off+i,none⟩) (n+m-i) dc,.slice (some ⟨vb,I,none⟩) m vc]).run Tryz.prog W=.ok (goInt vs.length) (W.setCells b (off+i) vs):=fun W I3 SI ty dc =>
  run_copy_cells W _ _ ty 29 b (off+i) (n+m-i) dc ⟨vb,I,none⟩ m vc vs aP fJ (by rw[Lm];simp only[C4];split<;>omega)
   (fun j v hj=>by
    rw[Addr.add_lit,I3,A7,World.cell?_setCells_out b _ _ _ _ (fun h _=>absurd h SH)]
    exact Xn j v hj)
   (fun j hj=>by rw[I3,oD];exact Ax _ (by omega)) (fun j hj=>by rw[SI,A7,World.frozen?_setCells,oD];exact tU _ (by omega)) N9
 rw[←A7] at aaY
 go_enter yY,Tryz.ntmps52
 go_wp2_with (simp only[hov])
 go_region_law (refine step_copy_runI rfl _ _ 98 98 rfl _ _ (by simp[Act.eval,Act.put]) (by simp[Act.eval,Act.put]) (aaY _ _ _) ?_)
 go_wp2_with (at_builtin;refine wpList_copy_runI _ rfl _ _ 98 98 rfl _ _ rfl rfl (adx _ (fun _=>rfl) (fun _=>rfl) _ _) ?_)
 go_ret
 first|exact⟨rfl,rfl⟩|exact⟨rfl,by rw[A7]⟩
end Go.Proofs.YtdonpgpfplgigaaGreat.Am
namespace Go.Proofs.YtdonpgpfplgigaaGreat.Am
open Go Go.Lib
variable {ts:Array TypeId} {X Y:aE} {C:gE} {code:Code} {d:rZ} {ε ag:bE} {A:bE→aE} {pg:bE→Int→List Nat} {lv dd:bE→Prop} {Q:Ex→List (Nat×V)→H→Prop} {fn:Func} {h:H} {P':Int→List Nat} {lo:Ky} {now:List (Int×List Nat)} {cs cs':List (List Nat)} {E:List (Nat×V)} {S:List aE} {es jA eL eR:List En} {ks:List gG} {Ch:List gG→Nat→Prop} {b ps c R M M' data pO was Z ot:List Nat} {us args caps:List V} {a l k i x n N B id off kd link extra j tW g q r aN L K tx bk lk root:Nat} {F:Nat→List (List Nat)→Prop} {ox oy:Operand} {hi:Option Ky} {P:Program} {α:Type} {t te t' e:TypeId} {rv y u z bv cv w kv pv:V}
set_option maxHeartbeats 4000000 in
set_option maxRecDepth 100000 in
theorem Vo (b off n c i vb P4 m vc:Nat)(cs vs:List Value)(w:World)(hi:i<n)(hm:0<m)(hnc:n≤c)(nh:c<n+m)(KP:(n+m)*24≤140737488355328)(gy:cs.length=n)(Lm:vs.length=m)
 (lz:∀j v,cs[j]?=some v→w.cell? ⟨b,off+j,none⟩=some v)
 (Xn:∀j v,vs[j]?=some v→w.cell? ⟨vb,P4+j,none⟩=some v)(N8:∀v∈cs,v.oneCell'=true)(N9:∀v∈vs,v.oneCell'=true):
  Calls Tryz.prog 52 #[.slice (some ⟨b,off,none⟩) n c,.int .i64 i,.slice (some ⟨vb,P4,none⟩) m vc] w fun e w' =>
   ∃G I,n+m≤G∧e=.returned (.slice (some ⟨w.heap.size,0,none⟩) (n+m) G)∧I.size=G ∧
   w'=(((w.drew.alloc (.cells I 29)).setCells w.heap.size i vs).drew).setCells w.heap.size (i+m) (cs.drop i)∧∀j v,cs[j]?=some v→j<i→I[j]?=some v:=by
 have DU:¬ ((m:Int)=0):=by omega
 have KK:¬ ((i:Int)=(n:Int)):=by omega
 have hz3:(c:Int)<(n:Int)+(m:Int):=by omega
 obtain⟨i0,hi0,yy,Wu,hzb⟩:∃i0,Tryz.prog.info? 29=some i0∧i0.zero=some (.slice none 0 0)∧i0.size=1∧i0.bytes=24:=by
  have h:(Tryz.prog.info? 29).map (fun i=>(i.zero,i.size,i.bytes))=some (some (.slice none 0 0),1,24):=by kernel_rfl
  cases h2:Tryz.prog.info? 29 with
  |none=>rw[h2] at h;cases h
  |some i0 =>
   rw[h2] at h
   simp only[gJ,aA,bN] at h
   exact⟨i0,rfl,h⟩
 have fJ:(Tryz.prog.info? 29).map (·.size)=some 1:=by rw[hi0];simp[Wu]
 have xy:b<w.heap.size:=block_lt_of_cell (lz 0 _ (aG (by omega)))
 have hvw:vb<w.heap.size:=block_lt_of_cell (Xn 0 _ (aG (by omega)))
 have yZ:(n:Int)+(m:Int)-(i:Int)=((n+m-i:Nat):Int):=by omega
 have Wz:i+(n+m-i)=n+m:=by omega
 have hold:(Builtin.firstCells i0.size i (.slice (some ⟨b,off,none⟩) i c)).run Tryz.prog w.drew=.ok (cs.take i).toArray w.drew:=by
  rw[Wu]
  exact run_firstCells_some w.drew 1 i ⟨b,off,none⟩ i c (cs.take i) (by rw[cH];omega) (fun j v hj=>by
   rw[Addr.add_lit]
   rw[ig] at hj
   split at hj
   ·exact lz j v hj
   ·cases hj)
 have Xo:∀ty,(Builtin.append_ #[98,3] ty #[.slice (some ⟨b,off,none⟩) i c,.int .i64 ((n:Int)+(m:Int)-(i:Int))]).run Tryz.prog w =
   .ok (.slice (some ⟨w.heap.size,0,none⟩) (n+m) (grownCap w (n+m) c 29)) (w.drew.alloc (.cells ((cs.take i).toArray++Builtin.zeroCells (Value.slice none 0 0).cells (n+m-i)++Builtin.zeroCells (Value.slice none 0 0).cells (grownCap w (n+m) c 29-(n+m))) 29)):=fun ty=>by
  have h:=Lib.run_append_grow_zeros w 98 3 ty 29 i0 _ .i64 .i64 aP cm hi0 yy (some ⟨b,off,none⟩) i c (cs.take i) hold (n+m-i) (by omega) (by omega) (by omega) (by omega) (by rw[hzb];omega) (by rw[hzb,Wz];exact growslice_fits nh KP)
  rw[Wz] at h
  rw[yZ]
  exact h
 have hGn:n+m≤grownCap w (n+m) c 29:=grownCap_ge w _ _ _
 have ady:grownCap w (n+m) c 29≤9223372036854775807:=by
  have:=grownCap_le_maxLen w (n+m) c 29 (by unfold maxLen;omega)
  unfold maxLen at this
  omega
 obtain⟨G,hG⟩:∃G,G=grownCap w (n+m) c 29:=⟨_,rfl⟩
 obtain⟨I,P5⟩:∃I:Array Value,I=(cs.take i).toArray++Builtin.zeroCells (Value.slice none 0 0).cells (n+m-i)++Builtin.zeroCells (Value.slice none 0 0).cells (G-(n+m)):=⟨_,rfl⟩
 rw[←hG] at Xo hGn ady
 rw[←P5] at Xo
 have hRs:I.size=G:=by
  rw[P5]
  simp[Builtin.zeroCells,Value.cells]
  omega
 have SJ:n+m≤I.size:=by omega
 have hRt:∀j v,cs[j]?=some v→j<i→I[j]?=some v:=fun j v h hj=>by
  have hl:j<(cs.take i).length:=by rw[cH];omega
  rw[P5,Array.append_assoc,Array.getElem?_append_left (by simpa using hl),pJ,GQ hj,h]
 obtain⟨W1,A7⟩:∃W1,W1=w.drew.alloc (.cells I 29):=⟨_,rfl⟩
 rw[←A7] at Xo
 have hN:∀j,j<n+m→(W1.cell? ⟨w.heap.size,j,none⟩).isSome=true:=fun j hj=>by
  rw[A7,World.cell?_alloc_at (w:=w.drew) I _ w.heap.size j rfl,CK (by omega)];rfl
 have hNf:∀j,W1.frozen? ⟨w.heap.size,j,none⟩=false:=fun j=>by rw[A7];exact World.frozen?_alloc_at (w:=w.drew) I _ w.heap.size j rfl
 have hOb:∀j v,w.cell? ⟨b,j,none⟩=some v→W1.cell? ⟨b,j,none⟩=some v:=fun j v h=>by rw[A7,World.cell?_alloc_past (w:=w.drew) _ b j xy];exact h
 have hOv:∀j v,w.cell? ⟨vb,j,none⟩=some v→W1.cell? ⟨vb,j,none⟩=some v:=fun j v h=>by rw[A7,World.cell?_alloc_past (w:=w.drew) _ vb j hvw];exact h
 have adz:∀(W:World),(∀x,W.cell? x=W1.cell? x)→(∀x,W.frozen? x=W1.frozen? x)→∀ty dc,(Builtin.copy_ #[98,98] ty #[.slice (some ⟨w.heap.size,i,none⟩) (n+m-i) dc,.slice (some ⟨vb,P4,none⟩) m vc]).run Tryz.prog W=.ok (goInt vs.length) (W.setCells w.heap.size i vs):=fun W I3 SI ty dc =>
  run_copy_cells W _ _ ty 29 w.heap.size i (n+m-i) dc ⟨vb,P4,none⟩ m vc vs aP fJ (by rw[Lm];simp only[C4];split<;>omega)
   (fun j v hj=>by rw[Addr.add_lit,I3];exact hOv _ v (Xn j v hj))
   (fun j hj=>by rw[I3];exact hN _ (by omega)) (fun j hj=>by rw[SI];exact hNf _) N9
 have hGi:¬ (G=i):=by omega
 have ae3:¬ (G=i+m):=by omega
 have xz:¬ (c=i):=by omega
 have hbN:b≠w.heap.size:=by omega
 have AV:(cs.drop i).length=n-i:=by rw[fc,gy]
 have aaZ:∀(W:World),(∀x,W.cell? x=(W1.setCells w.heap.size i vs).cell? x)→(∀x,W.frozen? x=(W1.setCells w.heap.size i vs).frozen? x)→∀ty dc sc,(Builtin.copy_ #[98,98] ty #[.slice (some ⟨w.heap.size,i+m,none⟩) (n+m-(i+m)) dc,.slice (some ⟨b,off+i,none⟩) (n-i) sc]).run Tryz.prog W=.ok (goInt (cs.drop i).length) (W.setCells w.heap.size (i+m) (cs.drop i)):=fun W I3 SI ty dc sc =>
  run_copy_cells W _ _ ty 29 w.heap.size (i+m) (n+m-(i+m)) dc ⟨b,off+i,none⟩ (n-i) sc (cs.drop i) aP fJ (by rw[AV];simp only[C4];split<;>omega)
   (fun j v hj=>by
    rw[Addr.add_lit,I3,World.cell?_setCells_out _ _ _ _ _ (fun h _=>absurd h hbN),oD]
    exact hOb _ v (lz (i+j) v (by rwa [fb] at hj)))
   (fun j hj=>by rw[I3];exact isSome_setCells _ _ _ _ (fun t ht=>hN _ (by omega)) _ (hN _ (by omega)))
   (fun j hj=>by rw[SI,World.frozen?_setCells];exact hNf _) (fun v hv=>N8 v (jh hv))
 subst A7
 have Ln:∀x,((w.alloc (.cells I 29)).drew).cell? x=(w.drew.alloc (.cells I 29)).cell? x:=fun x=>rfl
 have Lo:∀x,((w.alloc (.cells I 29)).drew).frozen? x=(w.drew.alloc (.cells I 29)).frozen? x:=fun x=>rfl
 have hF1:∀x,(((w.alloc (.cells I 29)).drew.setCells w.heap.size i vs).drew).cell? x=((w.drew.alloc (.cells I 29)).setCells w.heap.size i vs).cell? x:=fun x=>rfl
 have hF2:∀x,(((w.alloc (.cells I 29)).drew.setCells w.heap.size i vs).drew).frozen? x=((w.drew.alloc (.cells I 29)).setCells w.heap.size i vs).frozen? x:=fun x=>rfl
 have J7:IntKind.i64.wrap ((i:Int)+(m:Int))=(i:Int)+(m:Int):=by rw[IntKind.wrap_i64];omega
 have lT:(0:Int)≤(i:Int)+(m:Int):=by omega
 have xb:i≤n:=by omega
 have htn:((i:Int)+(m:Int)).toNat=i+m:=by omega
 have M8:(i:Int)≤(n:Int):=by omega
 clear yZ Wz hold P5 hG SJ
 have mixed:Tryz.prog.follows .mixedOrders=true:=Ca
 refine Calls.mono (R:=fun e w'=>e=.returned (.slice (some ⟨w.heap.size,0,none⟩) (n+m) G)∧w'=(((w.alloc (.cells I 29)).drew.setCells w.heap.size i vs).drew).setCells w.heap.size (i+m) (cs.drop i)) ?_ (fun e w' h=>⟨G,I,hGn,h.1,hRs,h.2,hRt⟩)
 go_enter yY,Tryz.ntmps52
 go_wp2_with (first
  |(at_builtin;refine Lib.wpList_append_run _ rfl _ _ _ _ rfl _ _ rfl rfl _ _ (Xo _) ?_)
  |(at_builtin;refine wpList_copy_runI _ rfl _ _ 98 98 rfl _ _ rfl rfl (adz _ Ln Lo _ _) ?_)
  |(at_builtin;refine wpList_copy_runI _ rfl _ _ 98 98 rfl _ _ rfl rfl (aaZ _ (fun _=>rfl) (fun _=>rfl) _ _ _) ?_))
 go_region_law_o (refine step_copy_runI rfl _ _ 98 98 rfl (.slice (some ⟨w.heap.size,i+m,none⟩) (n+m-(i+m)) (G-(i+m))) (.slice (some ⟨b,off+i,none⟩) (n-i) (c-i)) (by simp[Act.eval,Act.put]) (by simp[Act.eval,Act.put]) (aaZ _ hF1 hF2 3 (G-(i+m)) (c-i)) ?_)
 go_wp2
 go_ret
 exact⟨rfl,rfl⟩
end Go.Proofs.YtdonpgpfplgigaaGreat.Am
namespace Go.Proofs.YtdonpgpfplgigaaGreat.Am
open Go
variable {ts:Array TypeId} {X Y:aE} {C:gE} {code:Code} {d:rZ} {ε ag:bE} {A:bE→aE} {pg:bE→Int→List Nat} {lv dd:bE→Prop} {Q:Ex→List (Nat×V)→H→Prop} {fn:Func} {h:H} {P':Int→List Nat} {lo:Ky} {now:List (Int×List Nat)} {cs cs':List (List Nat)} {E:List (Nat×V)} {S:List aE} {es jA eL eR:List En} {ks:List gG} {Ch:List gG→Nat→Prop} {b ps c R M M' data pO was Z ot:List Nat} {us args caps:List V} {a l k i x n N B id off kd link extra j tW g q r aN L K tx bk lk root:Nat} {F:Nat→List (List Nat)→Prop} {ox oy:Operand} {hi:Option Ky} {P:Program} {α:Type} {t te t' e:TypeId} {rv y u z bv cv w kv pv:V}
theorem Vp {b:Nat}{l m:List Nat}: cmpN (a::l) (b::m)=if a<b then -1 else if b<a then 1 else cmpN l m:=by
 show cond (Nat.blt a b) (.negSucc 0) (cond (Nat.blt b a) 1 (cmpN l m))=_
 by_cases I:a<b
 ·rw[fS.2 I,ah,ay I];rfl
 ·have e1:Nat.blt a b=false:=by
   cases hq:Nat.blt a b with
   |true=>exact absurd (fS.1 hq) I
   |false=>rfl
  rw[e1,aV,ai I]
  by_cases h2:b<a
  ·rw[fS.2 h2,ah,ay h2]
  ·have e2:Nat.blt b a=false:=by
    cases hq:Nat.blt b a with
    |true=>exact absurd (fS.1 hq) h2
    |false=>rfl
   rw[e2,aV,ai h2]
theorem Ay : ∀(a b:Ky),(cmpN a b<0↔a<b)∧(cmpN a b≤0↔a≤b):=by
 intro a
 induction a with
 |nil =>
  intro b
  cases b with
  |nil=>exact⟨⟨fun h=>absurd h (by decide),fun h=>absurd h (mu _)⟩,⟨fun _=>nD _,fun _=>by decide⟩⟩
  |cons y b=>exact⟨⟨fun _=>ym _ _,fun _=>(show Int.negSucc 0<0 by decide)⟩,⟨fun _=>pP (ym _ _),fun _=>(show Int.negSucc 0≤0 by decide)⟩⟩
 |cons x a ih =>
  intro b
  cases b with
  |nil =>
   have I:cmpN (x::a) []=1:=rfl
   have h2:([]:Ky)<x::a:=ym _ _
   rw[I]
   exact⟨⟨fun h=>absurd h (by decide),fun h=>by grind⟩,⟨fun h=>absurd h (by decide),fun h=>by grind⟩⟩
  |cons y b =>
   obtain⟨i1,i2⟩:=ih b
   rw[Vp]
   by_cases I:x<y
   ·rw[ay I]
    have:x::a<y::b:=List.cons_lt_cons_iff.2 (.inl I)
    exact⟨⟨fun _=>this,fun _=>by decide⟩,⟨fun _=>pP this,fun _=>by decide⟩⟩
   ·rw[ai I]
    by_cases h2:y<x
    ·rw[ay h2]
     have:y::b<x::a:=List.cons_lt_cons_iff.2 (.inl h2)
     exact⟨⟨fun h=>absurd h (by decide),fun h=>by grind⟩,⟨fun h=>absurd h (by decide),fun h=>by grind⟩⟩
    ·rw[ai h2]
     have e:x=y:=by omega
     subst e
     have h3:x::a<x::b↔a<b:=by
      rw[GR]
      exact⟨fun h=>h.resolve_left (fun q=>absurd q (yo _)) |>.2,fun h=>.inr ⟨rfl,h⟩⟩
     have h4:x::a≤x::b↔a≤b:=by
      rw[←List.not_lt,←List.not_lt]
      have:x::b<x::a↔b<a:=by
       rw[GR]
       exact⟨fun h=>h.resolve_left (fun q=>absurd q (yo _)) |>.2,fun h=>.inr ⟨rfl,h⟩⟩
      rw[this]
     exact⟨i1.trans h3.symm,i2.trans h4.symm⟩
structure Way (ks:List gG)(k:Ky)(i:Nat): Prop where
 lt:i<ks.length
 le:∀j x,ks[j]?=some x→1≤j→j≤i→x.key≤k
 gt:∀j x,ks[j]?=some x→i<j→k<x.key
theorem Way.bd {k:Ky}(h:Way ks k i)(hb:Bd lo hi k): Bd (loK lo ks i) (cZ hi ks i) k:=by
 refine⟨?_,fun b I => ?_⟩
 ·unfold loK
  split
  ·exact hb.1
  ·have hk:ks[i]?=some (ks[i]'h.lt):=aG h.lt
   rw[hk]
   exact h.le i _ hk (by omega) (aI _)
 ·unfold cZ at I
  cases hk:ks[i+1]? with
  |none=>rw[hk] at I;exact hb.2 b I
  |some x =>
   rw[hk] at I
   obtain rfl:=bW I
   exact h.gt (i+1) x hk (by omega)
abbrev uL (n l:Nat)(bv cv:V): List V:=[.int .i64 (n:Int),.int .i64 (l:Int),bv,cv]
def a_ (x n l:Nat)(b:List Nat)(cs:List (List Nat)): aE:=xs fun bv:V=>xs fun cv:V=>xs fun us:List V=>star [pt x (.cells 4 (uL n l bv cv) false),.cg bv b,roS 1 cv us,cX us cs]
def jQ (l:Nat)(c:List Nat): Prop:=if l=0 then 1≤c.length∧1+c.getD 0 0≤c.length else 4≤c.length
section
variable {P:Int→List Nat}
theorem bh : Sat h (a_ x n l b cs::S)↔∃bv cv us,Sat h (pt x (.cells 4 (uL n l bv cv) false)::.cg bv b::roS 1 cv us::cX us cs::S):=by
 simp[a_,jv,cK]
theorem Nv.cells (hN:Nv F P l lo hi cs es ps): ∀c∈cs,jQ l c∧c.length≤225∧(1≤l→c.length≤100):=by
 intro c hc
 cases l with
 |zero =>
  obtain⟨rfl,h2,rfl⟩:=hN
  obtain⟨e,he,rfl⟩:=List.mem_map.1 hc
  obtain⟨s1,s2,s3⟩:=h2.sz e he
  refine⟨?_,?_,fun h=>by omega⟩
  ·show 1≤(ey e).length∧1+(ey e).getD 0 0≤(ey e).length
   exact⟨by simp[ey],by simp[ey];omega⟩
  ·simp[ey];omega
 |succ l =>
  obtain⟨ks,rfl,h2,rfl,rfl,h5⟩:=hN
  obtain⟨i,hi⟩:=List.mem_iff_getElem?.1 hc
  have I:=(List.getElem?_eq_some_iff.1 hi).1
  rw[eC] at I
  have hk:ks[i]?=some (ks[i]'I):=aG I
  rw[jB hk] at hi
  obtain rfl:=bW hi
  have h4:=cJ 4 (ks[i]'I).pg
  have rN:=h2.len _ (aM hk)
  have hl:(eX (ks[i]'I).pg (ks[i]'I).key).length=4+(ks[i]'I).key.length:=by rw[eX,aX,h4]
  exact⟨by rw[jQ,ai (by omega),hl];omega,by rw[hl];omega,fun _=>by rw[hl];omega⟩
end
def Sm (N:Nat)(ε ag:bE): Prop:=(∀m,pgA ag m=pgA ε m)∧(∀P:VP,uD N P→vw P ε→vw P ag)∧dz ag≤dz ε
theorem Sm.refl (N:Nat)(ε:bE): Sm N ε ε:=⟨fun _=>rfl,fun _ _ h=>h,aI _⟩
theorem Sm.trans {a b c:bE}(h:Sm N a b)(g:Sm N b c): Sm N a c:=⟨fun m=>(g.1 m).trans (h.1 m),fun P I hv=>g.2.1 P I (h.2.1 P I hv),cY g.2.2 h.2.2⟩
structure rO (told : cE) (N B : Nat) (rv : V) (A : bE → aE) (pg : bE → Int → List Nat) : Prop where
 iface : ∃ ty u f, rv = .iface ty u ∧ methV Tryz.prog ty "Read" = some f ∧ ∀ {h : H} {S : List aE} {ε : bE} {n : Int}, EI N B ε → 0 ≤ n → n < N → Sat h (A ε :: S) →
  Call ⟨Tryz.prog, told⟩ f [u, .int .i64 n] h fun v h' => ∃ w ag, v = .aT [w, .int .i64 0] ∧ EI N B ag ∧ Sm N ε ag ∧ Sat h' (aU w (pg ε n) :: A ag :: S)
 same : ∀ {ε ag : bE}, Sm N ε ag → ∀ m, pg ag m = pg ε m
structure I4 (told : cE) (N : Nat) (lv dd : bE → Prop) (sm : bE → bE → Prop) (rv : V) (A : bE → aE) (pg : bE → Int → List Nat) : Prop where
 iface : ∃ ty u f, rv = .iface ty u ∧ methV Tryz.prog ty "Read" = some f ∧ ∀ {h : H} {S : List aE} {ε : bE} {n : Int}, lv ε → 0 ≤ n → n < N → Sat h (A ε :: S) →
  Call ⟨Tryz.prog, told⟩ f [u, .int .i64 n] h fun v h' => (∃ ag, v = .aT [.aR, .int .i64 9] ∧ dd ag ∧ Sat h' (A ag :: S)) ∨ ∃ w ag, v = .aT [w, .int .i64 0] ∧ lv ag ∧ sm ε ag ∧ Sat h' (aU w (pg ε n) :: A ag :: S)
 same : ∀ {ε ag : bE}, sm ε ag → ∀ m, pg ag m = pg ε m
 tr : ∀ {a b c : bE}, sm a b → sm b c → sm a c
abbrev noD : bE→Prop:=fun _=>False
theorem rO.m {told:cE}(I:rO told N B rv A pg): I4 told N (EI N B) noD (Sm N) rv A pg:=by
 obtain⟨ty,u,f,e,hm,hr⟩:=I.iface
 exact⟨⟨ty,u,f,e,hm,fun a b c s=>(hr a b c s).mono fun _ _ k=>.inr k⟩,I.same,Sm.trans⟩
section
variable {v c:V} {cs:List V}
theorem Sat.Cm (s:Sat h S)(hk:getA S k=some (.arr 1 v cs))(hi:cs[i]?=some c)(hu:P.underlying t=some (.slice te))(I:bp P te=some 1)(e:indexAddrV P t v (.int .i64 (i:Int))=some (.ptr id off))(ha:isAggT P t'=some false): loadV P h t' (.ptr id off)=some c:=by
 grind[jL]
theorem y7 {s d:TypeId}{x:Operand}{r:V}{h₁:H}(I:bC E x=some v)(h1:convV P h s d v=none)(h2:convB P h s d v=some (r,h₁)): opE P E h (.convert s d x)=some (r,h₁):=by
 grind[opE,kV]
end
def jk : List Nat:=[109,117,110,105,109,101,110,116]
theorem Vq : buildSliceV Tryz.prog h 29 8 [(0,.int .u8 109),(1,.int .u8 117),(2,.int .u8 110),(3,.int .u8 105),(4,.int .u8 109),(5,.int .u8 101),(6,.int .u8 110),(7,.int .u8 116)]=some (.sl h.next 0 8 (.exact 8),newRow h (ofBytes jk)):=by
 simp only[buildSliceV,aK,fB,sZ,V.cells]
 rfl
theorem DD {x y:Operand}{b:Nat}(I:0<b)(hw:a<9223372036854775808): binV P h .quo t x y (.int .i64 (a:Int)) (.int .i64 (b:Int))=some (.int .i64 ((a/b:Nat):Int)):=by
 simp only[binV,ikBeq,ah,intV]
 have:intBeq (b:Int) 0=false:=by rw[sq];simp;omega
 have h2:a/b≤a:=Nat.div_le_self a b
 grind[aq]
section
variable {told:cE} {v x:V} {l:List Nat} {sm:bE→bE→Prop}
theorem Lp (hT:W told)(s:Sat h S): Call ⟨Tryz.prog,told⟩ 99 [] h fun r h'=>Sat h' (.cg r jk::S):=by
 refine Call.of_wp (hT.free _ rfl) Tryz.func99 rfl rfl (zK 6 rfl (au.any rfl rfl rfl (OpR.of (R:=fun v h'=>v=.sl h.next 0 8 (.exact 8)∧h'=newRow h (ofBytes jk)) (ku rfl Vq) ⟨rfl,rfl⟩) ?_))
 rintro v I ⟨rfl,rfl⟩
 have s1:Sat (newRow h (ofBytes jk)) (pt h.next (.cells 8 (ofBytes jk) false)::S):=s.new _
 generalize newRow h (ofBytes jk)=I at s1
 generalize h.next=id at s1
 have hg:=s1.row (k:=0) rfl
 have e1:convB Tryz.prog I 29 29 (.sl id 0 8 (.exact 8))=some (.sl id 0 8 (.exact 8),I.put id (some (.cells 8 (ofBytes jk) true))):=by
  simp only[convB,aK,Tryz.underlying5,hg]
  rfl
 have e0:convV Tryz.prog I 29 29 (.sl id 0 8 (.exact 8))=none:=by
  simp only[convV,aK]
 have s2:Sat (I.put id (some (.cells 8 (ofBytes jk) true))) (pt id (.cells 8 (ofBytes jk) true)::S):=s1.put (k:=0) rfl
 have s3:Sat (I.put id (some (.cells 8 (ofBytes jk) true))) (.cg (.sl id 0 8 (.exact 8)) jk::S):=s2.freeze.dQ (B:=.cg (.sl id 0 8 (.exact 8)) jk) fun m r hm=>⟨by decide,.inr ⟨id,0,.exact 8,8,_,true,rfl,hm,rfl,by decide,rfl,by decide⟩⟩
 refine au.any rfl rfl rfl (OpR.of (R:=fun v h'=>v=.sl id 0 8 (.exact 8)∧h'=I.put id (some (.cells 8 (ofBytes jk) true))) (y7 rfl e0 e1) ⟨rfl,rfl⟩) ?_
 rintro v h2 ⟨rfl,rfl⟩
 exact zk 2 rfl (WP.ret ⟨aa,_,rfl,s3⟩)
theorem I5 (hT:W told)(hx:View h x l)(hy:View h y c): Call ⟨Tryz.prog,told⟩ 118 [x,y] h fun r h'=>r=.bool (decide (l=c))∧h'=h:=by
 refine Call.of_wp (hT.free _ rfl) Tryz.func118 rfl rfl (zK 7 rfl (zo rfl (cL rfl (Cf hx)) (zm rfl (zo rfl (cL rfl (Cf hy)) ?_))))
 by_cases I:l=c
 ·skip
  exact zB rfl FH (decide_eq_true I) (zk 2 rfl (WP.ret ⟨aa,_,rfl,by rw[dB I],rfl⟩))
 ·skip
  exact zC rfl FH (decide_eq_false I) (zk 2 rfl (WP.ret ⟨aa,_,rfl,by rw[er I],rfl⟩))
theorem Gm (I:W told)(h1:1≤n)(h2:n≤3000): Call ⟨Tryz.prog,told⟩ 90 [.int .i64 (n:Int)] h fun r h'=>r=.int .i64 2∧h'=h:=by
 have e:(n+2999)/3000=1:=by omega
 refine Call.of_wp (I.free _ rfl) Tryz.func90 rfl rfl (zK 7 rfl (zb rfl (by exact aQ (aq (by omega) (by omega))) ?_))
 refine zb rfl (by exact ew (aq (by omega) (by omega))) ?_
 refine zo rfl (ak (r:=.int .i64 (((n+2999)/3000:Nat):Int)) rfl rfl (by rw[show(n:Int)+3000-1=((n+2999:Nat):Int) by omega];exact DD (by decide) (by omega))) ?_
 rw[e]
 refine zb rfl (by exact aQ (aq (by omega) (by omega))) ?_
 exact zk 2 rfl (WP.ret ⟨aa,_,rfl,rfl,rfl⟩)
theorem Y3 (hT:W told)(hR:I4 told N lv dd sm rv A pg)(cA:lv ε)(hN:1≤N)(hp:fA (pg ε 0) 201 n extra [jk,R])(SJ:R.length=64)(s:Sat h (A ε::S)):
  Call ⟨Tryz.prog,told⟩ 163 [rv] h fun v h'=>(∃ag,v=.aT [.aR,.int .i64 0,.bool false,.int .i64 9]∧Sat h' (A ag::S)∧dd ag)∨∃u ag,v=.aT [u,.int .i64 (n:Int),.bool true,.int .i64 0]∧lv ag∧sm ε ag∧Sat h' (aU u R::A ag::S):=by
 obtain⟨ty,u,f,rfl,hm,ju⟩:=hR.iface
 refine Call.of_wp (hT.free _ rfl) Tryz.func163 rfl rfl (zK 10 rfl (au.any rfl rfl rfl (OpR.invoke rfl rfl rfl hm rfl (ju cA (by decide) (by omega) s)) ?_))
 rintro v h (⟨ag,rfl,hd,s⟩|⟨u,ag,rfl,uJ,hs,s⟩)
 ·skip
  refine zk 10 rfl (zB rfl aH (by decide) ?_)
  exact zk 10 rfl (WP.ret ⟨aa,_,rfl,.inl ⟨ag,rfl,s,hd⟩⟩)
 refine zk 10 rfl (zC rfl aH (rfl) (zk 6 rfl (zc rfl (PX hT s (aZ _ _) hp) ?_)))
 rintro v h ⟨w,u0,u1,rfl,s⟩
 obtain⟨Xp,I,g1,g2⟩:=jL (P:=Tryz.prog) s (k:=0) (i:=0) (c:=u0) rfl rfl aP dH
 obtain⟨Xq,P6,g3,g4⟩:=jL (P:=Tryz.prog) s (k:=0) (i:=1) (c:=u1) rfl rfl aP dH
 have xy:=(s.tf (j:=0) rfl).2.2
 have m7:=nM (s.buf (k:=1) rfl).view
 refine zk 8 rfl ?_
 have s0:=s
 refine WP.drawn [af,af,af,af,af,af,af,af,some (0,2),some (0,2),some (0,2),af,af,af,af,af,af,af,af,af,af,af] rfl (by kernel_rfl) (by kernel_rfl) ?_
 refine zM rfl (aB.qb rfl rfl rfl rfl (ak rfl rfl aH) (by decide) ?_)
 refine zM rfl (zM rfl (zO rfl (aD rfl rfl rfl (s.fW (n:=2) (j:=0) rfl rfl (by decide) aP)) ?_))
 refine aB.qb rfl rfl rfl rfl (ak rfl rfl aH) (by decide) ?_
 refine zO rfl (pT rfl rfl) (zM rfl (zM rfl (zO rfl (bS (r:=.ptr Xp I) rfl rfl g1) (zL rfl (s.Cm (k:=0) (i:=0) rfl rfl aP dH g1 bF) (aB.any rfl rfl rfl rfl (OpR.call rfl rfl rfl rfl (Lp hT s)) ?_)))))
 intro mv h s
 have s:=s.ae [1,1,1,1,1,0]
 have s1:=s
 refine aB.any rfl rfl rfl rfl (OpR.call rfl rfl rfl rfl (I5 hT (s.buf (k:=1) rfl).view (s.aC (k:=5) rfl (bj _ _)))) ?_
 rintro r h' ⟨rfl,rfl⟩
 rw[show decide (jk=jk)=true from dB rfl]
 refine zO rfl (dZ rfl rfl) (zO rfl (pT rfl rfl) (zM rfl (zM rfl (zO rfl (bS (r:=.ptr Xq P6) rfl rfl g3) (zL rfl (s.Cm (k:=0) (i:=1) rfl rfl aP dH g3 bF) (zO rfl (aD rfl rfl rfl (aY aK (s.aC (k:=2) rfl (aZ _ _)))) ?_))))))
 rw[SJ]
 refine aB.qb rfl rfl rfl rfl (ak rfl rfl aH) (by decide) ?_
 refine zO rfl (pT rfl rfl) ?_
 refine aB.nil ⟨⟨aa,aa,aa,aa,aa,aa,aa,aa,fun _ _=>.inr ⟨rfl,⟨_,bV rfl⟩,xy⟩,fun _ _=>.inr ⟨rfl,⟨_,bS (r:=.ptr Xp I) rfl rfl g1⟩,bg _ rfl⟩,fV (.inr ⟨rfl,⟨_,o_load rfl (s0.Cm (k:=0) (i:=0) rfl rfl aP dH g1 bF)⟩,m7⟩) (.inr ⟨rfl,⟨_,o_load rfl (s1.Cm (k:=0) (i:=0) rfl rfl aP dH g1 bF)⟩,m7⟩),aa,aa,aa,aa,aa,aa,aa,aa,aa,aa,aa,aa⟩,?_⟩
 refine zK 5 rfl ?_
 have Ii:=hp.len
 refine zc rfl (HI hT (s.ae [3]) (aZ _ _) (by omega)) ?_
 rintro v h ⟨s,(⟨hg,rfl⟩|⟨hg,rfl⟩)⟩
 ·rw[show(pg ε 0).getD 12 0=201 from hp.kind,show dI (pg ε 0) 18 4=n from hp.link]
  have s:=s.ae [1,1,1,1,0]
  refine zk 16 rfl (zC rfl aH (by decide) ?_)
  exact zk 6 rfl (zo rfl (bS (r:=.ptr Xq P6) rfl rfl g3) (zl rfl (s.Cm (k:=0) (i:=1) rfl rfl aP dH g3 bF) (zk 6 rfl (WP.ret ⟨aa,_,rfl,.inr ⟨_,ag,rfl,uJ,hs,(((((s.ae [2,2]).del 5).del 4).del 3).del 2)⟩⟩))))
 ·rw[hp.good] at hg;cases hg
theorem Lq (hT:W told)(hR:I4 told N lv dd sm rv A pg)(cA:lv ε)(hN:1≤N)(hp:fA (pg ε 0) 201 n extra [jk,R])(SJ:R.length=64)(s:Sat h (A ε::S)):
  Call ⟨Tryz.prog,told⟩ 89 [rv] h fun v h'=>(∃ag,v=.aT [.aR,.int .i64 0,.int .i64 9]∧Sat h' (A ag::S)∧dd ag)∨∃u ag,v=.aT [u,.int .i64 (n:Int),.int .i64 0]∧lv ag∧sm ε ag∧Sat h' (aU u R::A ag::S):=by
 refine Call.of_wp (hT.free _ rfl) Tryz.func89 rfl rfl (zK 9 rfl (zc rfl (Y3 hT hR cA hN hp SJ s) ?_))
 rintro v h (⟨ag,rfl,s,hd⟩|⟨u,ag,rfl,I,hs,s⟩)
 ·skip
  refine zk 11 rfl (WP.block (zK 3 rfl (zB rfl aH (by decide) ?_)))
  exact zk 10 rfl (WP.ret ⟨aa,_,rfl,.inl ⟨ag,rfl,s,hd⟩⟩)
 refine zk 9 rfl (zv (zw (WP.block (zg rfl (zm rfl (zh rfl (ak rfl rfl aH) (rfl) (za rfl (zv (zj rfl (zg rfl (zm rfl (zo rfl (dZ rfl rfl) (za rfl (zv (zj rfl (WP.skip (zg rfl (zk 5 rfl (zv ?_)))))))))))))))))))
 refine WP.ret ⟨aa,_,rfl,?_⟩
 exact .inr ⟨u,ag,rfl,I,hs,s⟩
theorem DE (hT:W told)(hR:I4 told N lv dd sm rv A pg)(cA:lv ε)(hN:2≤N)(hp:fA (pg ε 1) kd link extra [M])(hM:M.length=375)(s:Sat h (A ε::S)):
  Call ⟨Tryz.prog,told⟩ 91 [rv,.int .i64 0] h fun v h'=>(∃ag,v=.aT [.aR,.aR,.int .i64 9]∧Sat h' (A ag::S)∧dd ag)∨∃w u ag,v=.aT [w,u,.int .i64 0]∧lv ag∧sm ε ag∧Sat h' (aU u M::aU w (pg ε 1)::A ag::S):=by
 obtain⟨ty,u,f,rfl,hm,ju⟩:=hR.iface
 refine Call.of_wp (hT.free _ rfl) Tryz.func91 rfl rfl (zK 11 rfl (zb rfl (by exact aQ (aq (by omega) (by omega))) ?_))
 refine au.any rfl rfl rfl (OpR.invoke rfl rfl rfl hm rfl (ju (n:=1) cA (by decide) (by omega) s)) ?_
 rintro v h (⟨ag,rfl,hd,s⟩|⟨w,ag,rfl,I,hs,s⟩)
 ·skip
  refine zk 9 rfl (zB rfl aH (by decide) ?_)
  exact zk 9 rfl (WP.ret ⟨aa,_,rfl,.inl ⟨ag,rfl,s,hd⟩⟩)
 refine zk 9 rfl (zC rfl aH (rfl) (zk 6 rfl (zc rfl (Vg (i:=0) hT s (aZ _ _) hp rfl) ?_)))
 rintro v h ⟨u,rfl,s⟩
 refine zk 10 rfl (zC rfl aH (rfl) (zk 2 rfl (zo rfl (aD rfl rfl rfl (aY aK (s.aC (k:=0) rfl (aZ _ _)))) ?_)))
 rw[hM]
 refine zC rfl aH (by decide) ?_
 exact zk 12 rfl (WP.ret ⟨aa,_,rfl,.inr ⟨w,u,ag,rfl,I,hs,s⟩⟩)
end
def bt (M:List Nat)(i:Nat): Bool:=(M.getD (i/8) 0).testBit (i%8)
def Gn (M:List Nat)(i:Nat): List Nat:=M.set (i/8) (Nat.lor (M.getD (i/8) 0) (2^(i%8)))
def I6 (M:List Nat)(i:Nat): List Nat:=M.set (i/8) (Nat.land (M.getD (i/8) 0) (255-2^(i%8)))
theorem Lr {b:Nat}(hi:i<M.length): (M.set i b).getD j 0=if i=j then b else M.getD j 0:=by
 grind
theorem Xr (hi:i/8<M.length): bt (Gn M i) j=if j=i then true else bt M j:=by
 unfold bt Gn
 rw[Lr hi]
 by_cases h:i/8=j/8
 ·rw[ay h,show Nat.lor (M.getD (i/8) 0) (2^(i%8))=(M.getD (i/8) 0) ||| (2^(i%8)) from rfl,Nat.testBit_or,Nat.testBit_two_pow,h]
  grind
 ·grind
theorem Xs (hi:i/8<M.length): bt (I6 M i) j=if j=i then false else bt M j:=by
 unfold bt I6
 rw[Lr hi]
 by_cases h:i/8=j/8
 ·have e:255-2^(i%8)=2^8-(2^(i%8)+1):=by omega
  have I:2^(i%8)<2^8:=yc (by decide) (by omega)
  rw[ay h,show Nat.land (M.getD (i/8) 0) (255-2^(i%8))=(M.getD (i/8) 0) &&& (255-2^(i%8)) from rfl,Nat.testBit_and,e,Nat.testBit_two_pow_sub_succ I,Nat.testBit_two_pow,h]
  grind
 ·grind
theorem N_ : (Gn M i).length=M.length:=cI
theorem Oa : (I6 M i).length=M.length:=cI
theorem SK (I:a<256)(hk:k<8): Nat.lor a (2^k)<256:=Nat.or_lt_two_pow (n:=8) I (yc (by decide) hk)
theorem HX {c:Nat}(I:a<256): Nat.land a c<256:=Nat.lt_of_le_of_lt Nat.and_le_left I
def mY (x:Nat): Nat:=((List.range 8).filter fun i => !x.testBit i).headD 8
theorem Ob : ∀x,x<255→mY x<8∧x.testBit (mY x)=false∧∀j,j<mY x→x.testBit j=true:=by
 have:∀x,x<255→(decide (mY x<8)&&(!x.testBit (mY x)&&(List.range (mY x)).all fun j=>x.testBit j))=true:=by decide +kernel
 grind
theorem adA : ∀x,x<256→(∀j,j<8→x.testBit j=true)→x=255:=by
 have:∀x,x<256→((List.range 8).all fun j=>x.testBit j)=true→x=255:=by decide +kernel
 grind
theorem Gp (I:j<8): bt M (8*k+j)=(M.getD k 0).testBit j:=by
 grind[bt]
section
variable {x y:Operand} {b:Nat}
theorem aa0 (I:k<8): binV P h .shr t x y (.int .u8 (a:Int)) (.int .i64 (k:Int))=some (.int .u8 ((a/2^k:Nat):Int)):=by
 simp only[binV,shiftV,IntKind.bits,gU]
 grind
theorem aa1 (I:k<8): binV P h .shl t x y (.int .u8 1) (.int .i64 (k:Int))=some (.int .u8 ((2^k:Nat):Int)):=by
 have cq:2^k<256:=yc (a:=2) (n:=8) (by decide) I
 simp only[binV,shiftV,IntKind.bits,gU]
 grind[vX]
theorem DF {op:BinOp}{f:Nat→Nat→Nat}(I:a<256)(hb:b<256)(hf:f a b<256)(he:bitsV op .u8 (a:Int) (b:Int)=some (.int .u8 (IntKind.u8.wrap (f ((a:Int)%(2^(IntKind.u8).bits:Int)).toNat ((b:Int)%(2^(IntKind.u8).bits:Int)).toNat:Nat)))):
  bitsV op .u8 (a:Int) (b:Int)=some (.int .u8 ((f a b:Nat):Int)):=by
 grind[IntKind.bits,vX]
theorem aa2 (I:a<256)(hb:b<256): binV P h .and t x y (.int .u8 (a:Int)) (.int .u8 (b:Int))=some (.int .u8 ((Nat.land a b:Nat):Int)):=by
 simp only[binV,ikBeq,ah,intV]
 exact DF (f:=Nat.land) I hb (HX I) rfl
theorem acv (I:a<256)(hk:k<8): binV P h .or t x y (.int .u8 (a:Int)) (.int .u8 ((2^k:Nat):Int))=some (.int .u8 ((Nat.lor a (2^k):Nat):Int)):=by
 simp only[binV,ikBeq,ah,intV]
 exact DF (f:=Nat.lor) I (yc (a:=2) (n:=8) (by decide) hk) (SK I hk) rfl
theorem SL (I:a<256)(hb:b<256): binV P h .andNot t x y (.int .u8 (a:Int)) (.int .u8 (b:Int))=some (.int .u8 ((Nat.land a (255-b):Nat):Int)):=by
 simp only[binV,ikBeq,ah,intV]
 exact DF (f:=fun a b=>Nat.land a (255-b)) I hb (HX I) rfl
theorem Ls (I:a<256): unV .xor (.int .u8 (a:Int))=some (.int .u8 ((255-a:Nat):Int)):=by
 have:∀a,a<256→Nat.xor 255 a=255-a:=by decide +kernel
 have e:bitsV .xor .u8 ((255:Nat):Int) (a:Int)=some (.int .u8 ((Nat.xor 255 a:Nat):Int)):=DF (f:=Nat.xor) (by decide) I (by grind) rfl
 rw[this a I] at e
 exact e
theorem aa3 : Nat.land (a/2^k) 1=if a.testBit k=true then 1 else 0:=by
 rw[Nat.testBit_eq_decide_div_mod_eq,show Nat.land (a/2^k) 1=(a/2^k) &&& 1 from rfl,Nat.and_one_is_mod]
 grind
theorem aa4 {f:Nat→Nat}{L:List Nat}(hu:P.underlying t=some .string)(I:∀x,x<256→nth L x=some (f x))(ha:a<256): indexV P t (.str L) (.int .u8 (a:Int))=some (.int .u8 ((f a:Nat):Int)):=by
 simp_all[indexV]
end
section
variable {told:cE} {v x:V} {l:List Nat}
theorem Lt (I:W told)(ha:a<256): Call ⟨Tryz.prog,told⟩ 204 [.int .u8 ((255-a:Nat):Int)] h fun r h'=>r=.int .i64 (mY a:Nat)∧h'=h:=by
 have hle:∀a,a<256→mY a≤8:=by decide +kernel
 have hle:=hle a ha
 have he:mY (255-(255-a))=mY a:=by rw[show 255-(255-a)=a by omega]
 refine Call.of_wp (I.free _ rfl) Tryz.func204 rfl rfl (zK 7 rfl (zo rfl (BJ rfl rfl (aa4 (f:=fun x=>mY (255-x)) o7 (by decide +kernel) (by omega))) ?_))
 rw[he]
 refine zo rfl (cL rfl (by exact kJ Tryz.underlying5 cm (aq (by omega) (by omega)))) ?_
 exact zk 2 rfl (WP.ret ⟨aa,_,rfl,rfl,rfl⟩)
noncomputable def lwL : Code:=eu [1,1,1,0,1,0,0,1,1,0,0,1,1,1,1,0,0] ((Tryz.f162.body).getD .skip)
theorem Vr (hT:W told){lo:Nat}(hv:View h u M)(hM:M.length=375)(hn:n≤3000)(js:lo<n)(h0:bt M lo=false)(h1:∀j,j<lo→bt M j=true): ∀(m k:Nat) (E:List (Nat×V)) (Q:Ex→List (Nat×V)→H→Prop),k+m=lo/8 →
  Has E [(5,.int .i64 (n:Int)),(7,.int .i64 0),(39,u),(40,.int .i64 375),(41,.int .i64 (k:Int))] →
  (∀E',look E' 2=some (.int .i64 (lo:Int))→look E' 3=some (.int .i64 0)→Q .ret E' h)→WP ⟨Tryz.prog,told⟩ 65 (.loop lwL) E h Q:=by
 intro m
 induction m with
 |zero =>
  intro k E Q hk hE hq
  have hb:M[k]?=some (M[k]'(by omega)):=aG _
  have I:M.getD k 0=M[k]'(by omega):=by rw[vj,hb];rfl
  generalize (M[k]'(by omega))=x at hb I
  have hx:x<256:=hv.1 x (aM hb)
  obtain⟨id,off,e1,e2⟩:=fg hv hb
  have Iu:x≠255:=fun e=>by
   have:=Gp (M:=M) (k:=k) (j:=lo%8) (by omega)
   rw[show 8*k+lo%8=lo by omega,h0,I,e] at this
   have q:∀j,j<8→(255:Nat).testBit j=true:=by decide
   rw[q _ (by omega)] at this;cases this
  obtain⟨w1,w2,w3⟩:=Ob x (by omega)
  have hl:8*k+mY x=lo:=by
   have a1:=Gp (M:=M) (k:=k) (j:=mY x) w1
   rw[I,w2] at a1
   rcases sX (8*k+mY x) lo with q|q
   ·rw[h1 _ q] at a1;cases a1
   ·by_cases q2:lo%8<mY x
    ·have:=w3 _ q2
     have a2:=Gp (M:=M) (k:=k) (j:=lo%8) (by omega)
     rw[show 8*k+lo%8=lo by omega,h0,I,this] at a2;cases a2
    ·omega
  refine WP.loop (WP.has hE (zg rfl (zB rfl aO (by simp;omega) ?_)))
  refine zk 5 rfl (WP.block (zK 3 rfl (zo rfl (bS (r:=.ptr id off) rfl rfl e1) (zl rfl e2 (zk 6 rfl (zb rfl (by exact jx (aq (by omega) (by omega))) ?_))))))
  refine zm rfl (zb rfl (by exact jx (aq (by omega) (by omega))) ?_)
  refine zb rfl (by exact aQ (aq (by omega) (by omega))) ?_
  refine zm rfl (zo rfl (dZ rfl (Ls hx)) (zc rfl (Lt hT hx) ?_))
  rintro v h' ⟨rfl,rfl⟩
  refine zo rfl (ak (r:=.int .i64 (lo:Int)) rfl rfl (by rw[←hl,show(((8*k+mY x:Nat):Int))=(3000*0+8*(k:Int))+(mY x:Int) by omega];exact aQ (aq (by omega) (by omega)))) ?_
  refine zk 5 rfl (zB rfl aH (by simp;omega) ?_)
  refine zk 3 rfl (zB rfl aO (by simp;omega) ?_)
  exact zk 9 rfl (WP.ret (hq _ rfl rfl))
 |succ m ih =>
  intro k E Q hk hE hq
  have hb:M[k]?=some (M[k]'(by omega)):=aG _
  have I:M.getD k 0=M[k]'(by omega):=by rw[vj,hb];rfl
  generalize (M[k]'(by omega))=x at hb I
  have hx:x<256:=hv.1 x (aM hb)
  obtain⟨id,off,e1,e2⟩:=fg hv hb
  have Iu:x=255:=adA x hx fun j hj=>by rw[←I,←Gp hj];exact h1 _ (by omega)
  have SM:∀a,a<256→mY a≤8:=by decide +kernel
  have SM:=SM x hx
  refine WP.loop (WP.has hE (zg rfl (zB rfl aO (by simp;omega) ?_)))
  refine zk 5 rfl (WP.block (zK 3 rfl (zo rfl (bS (r:=.ptr id off) rfl rfl e1) (zl rfl e2 (zk 6 rfl (zb rfl (by exact jx (aq (by omega) (by omega))) ?_))))))
  refine zm rfl (zb rfl (by exact jx (aq (by omega) (by omega))) ?_)
  refine zb rfl (by exact aQ (aq (by omega) (by omega))) ?_
  refine zm rfl (zo rfl (dZ rfl (Ls hx)) (zc rfl (Lt hT hx) ?_))
  rintro v h' ⟨rfl,rfl⟩
  refine zb rfl (by exact aQ (aq (by omega) (by omega))) ?_
  refine zk 5 rfl (zC rfl aH (by simp;omega) ?_)
  refine zk 5 rfl (zv (zj rfl (WP.skip (zr rfl (zb rfl (by exact aQ (aq (by omega) (by omega))) ?_)))))
  refine zm rfl (zv ?_)
  exact ih (k+1) _ Q (by omega) ⟨rfl,rfl,rfl,rfl,rfl,aa⟩ hq
theorem SN (hT:W told)(hv:View h u M)(hM:M.length=375)(hn:n≤3000)(h1:∀j,j<n→bt M j=true)(h0:∀j,n≤j→bt M j=false): ∀(m k:Nat) (E:List (Nat×V)) (Q:Ex→List (Nat×V)→H→Prop),k+m=375 →
  Has E [(5,.int .i64 (n:Int)),(7,.int .i64 0),(25,.int .i64 1),(26,.int .i64 0),(39,u),(40,.int .i64 375),(41,.int .i64 (k:Int))] →
  (∀E',Has E' [(25,.int .i64 1),(26,.int .i64 0)]→Q (.exit 2) E' h)→WP ⟨Tryz.prog,told⟩ 65 (.loop lwL) E h Q:=by
 intro m
 induction m with
 |zero =>
  intro k E Q hk I hq
  refine WP.loop (WP.has I (zg rfl (zC rfl aO (by simp;omega) ?_)))
  exact zk 3 rfl (WP.exit (hq _ ⟨rfl,rfl,aa⟩))
 |succ m ih =>
  intro k E Q hk I hq
  have hb:M[k]?=some (M[k]'(by omega)):=aG _
  have sO:M.getD k 0=M[k]'(by omega):=by rw[vj,hb];rfl
  generalize (M[k]'(by omega))=x at hb sO
  have hx:x<256:=hv.1 x (aM hb)
  obtain⟨id,off,e1,e2⟩:=fg hv hb
  have SM:∀a,a<256→mY a≤8:=by decide +kernel
  have SM:=SM x hx
  have next:=fun E I=>ih (k+1) E Q (by omega) I hq
  refine WP.loop (WP.has I (zg rfl (zB rfl aO (by simp;omega) ?_)))
  refine zk 5 rfl (WP.block (zK 3 rfl (zo rfl (bS (r:=.ptr id off) rfl rfl e1) (zl rfl e2 (zk 6 rfl (zb rfl (by exact jx (aq (by omega) (by omega))) ?_))))))
  refine zm rfl (zb rfl (by exact jx (aq (by omega) (by omega))) ?_)
  refine zb rfl (by exact aQ (aq (by omega) (by omega))) ?_
  refine zm rfl (zo rfl (dZ rfl (Ls hx)) (zc rfl (Lt hT hx) ?_))
  rintro v h' ⟨rfl,rfl⟩
  refine zb rfl (by exact aQ (aq (by omega) (by omega))) ?_
  refine zk 5 rfl ?_
  by_cases Iu:x=255
  ·skip
   refine zC rfl aH (by simp;omega) ?_
   refine zk 5 rfl (zv (zj rfl (WP.skip (zr rfl (zb rfl (by exact aQ (aq (by omega) (by omega))) ?_)))))
   refine zm rfl (zv ?_)
   exact next _ ⟨rfl,rfl,rfl,rfl,rfl,rfl,rfl,aa⟩
  ·obtain⟨w1,w2,w3⟩:=Ob x (by omega)
   have Io:n≤8*k+mY x:=by
    rcases sX (8*k+mY x) n with q|q
    ·have:=h1 _ q
     rw[Gp w1,sO,w2] at this;cases this
    ·exact q
   refine zB rfl aH (by simp;omega) ?_
   refine zk 3 rfl (zC rfl aO (by simp;omega) ?_)
   refine zq rfl (zv (zj rfl (WP.skip (zr rfl (zb rfl (by exact aQ (aq (by omega) (by omega))) ?_)))))
   refine zm rfl (zv ?_)
   exact next _ ⟨rfl,rfl,rfl,rfl,rfl,rfl,rfl,aa⟩
end
section
variable {x y:Operand}
theorem P7 (I:n<3000): binV P h .quo t x y (.int .i64 (n:Int)) (.int .i64 3000)=some (.int .i64 0):=by
 have:=DD (P:=P) (h:=h) (t:=t) (x:=x) (y:=y) (a:=n) (b:=3000) (by decide) (by omega)
 rw[show n/3000=0 by omega] at this;exact this
theorem P8 (I:n<3000): binV P h .rem t x y (.int .i64 (n:Int)) (.int .i64 3000)=some (.int .i64 (n:Int)):=by
 have:=PF (P:=P) (h:=h) (t:=t) (x:=x) (y:=y) (a:=n) (b:=3000) (by decide)
 rw[show n%3000=n by omega] at this;exact this
theorem aa5 : binV P h .eql t x y (.int .u8 ((Nat.land (a/2^k) 1:Nat):Int)) (.int .u8 1)=some (.bool (a.testBit k)):=by
 rw[aa3]
 cases h:a.testBit k<;>rfl
theorem adB {k:IntKind}{a b:Int}: builtinV P h .min ts [.int k a,.int k b]=some (.int k (min a b),h):=by
 grind[builtinV,foldV,Ef,ff]
end
section
variable {told:cE} {v x:V} {l:List Nat} {sm:bE→bE→Prop}
structure fY (n:Nat)(R M:List Nat)(p:Int→List Nat): Prop where
 head:∃ex,fA (p 0) 201 n ex [jk,R]
 rl:R.length=64
 marks:∃kd lk ex,fA (p 1) kd lk ex [M]
 ml:M.length=375
 n1:2≤n
 n2:n≤2999
 own:∀j,j<2→bt M j=true
 hi:∀j,n≤j→bt M j=false
theorem Vs (hT:W told)(hR:I4 told N lv dd sm rv A pg)(cA:lv ε)(hN:2≤N)(hp:fY n R M (pg ε)){lo:Nat}(js:lo<n)(h0:bt M lo=false)(h1:∀j,j<lo→bt M j=true)(s:Sat h (A ε::S)):
  Call ⟨Tryz.prog,told⟩ 162 [rv] h fun v h'=>(∃ag,v=.aT [.int .i64 0,.int .i64 9]∧Sat h' (A ag::S)∧dd ag)∨∃ag,v=.aT [.int .i64 (lo:Int),.int .i64 0]∧lv ag∧sm ε ag∧Sat h' (A ag::S):=by
 obtain⟨ex,wP⟩:=hp.head
 obtain⟨kd,lk,tW,I⟩:=hp.marks
 have hM:=hp.ml
 have sA:=hp.n2
 refine Call.of_wp (hT.free _ rfl) Tryz.func162 rfl rfl (zK 8 rfl (zc rfl (Lq hT hR cA (by omega) wP hp.rl s) ?_))
 rintro v h (⟨ep,rfl,s,hd⟩|⟨u,ep,rfl,ou,fK,s⟩)
 ·skip
  refine zk 12 rfl (zB rfl aH (by decide) ?_)
  exact zk 8 rfl (WP.ret ⟨aa,_,rfl,.inl ⟨ep,rfl,s,hd⟩⟩)
 refine zk 12 rfl (zC rfl aH (rfl) (zk 7 rfl (zc rfl (Gm hT (by omega) (by omega)) ?_)))
 rintro v h' ⟨rfl,rfl⟩
 refine zb rfl (by exact ew (aq (by omega) (by omega))) ?_
 refine zk 2 rfl (WP.block (WP.loop (zg rfl (zB rfl aO (by decide) ?_))))
 have I:fA (pg ep 1) kd lk tW [M]:=by rw[hR.same fK];exact I
 refine zk 5 rfl (WP.block (zK 9 rfl (zc rfl (DE hT hR ou hN I hM (s.ae [1])) ?_)))
 rintro v h (⟨iQ,rfl,s,hd⟩|⟨w2,u2,iQ,rfl,sH,nc,s⟩)
 ·skip
  refine zk 12 rfl (zB rfl aH (by decide) ?_)
  exact zk 8 rfl (WP.ret ⟨aa,_,rfl,.inl ⟨iQ,rfl,s.del 1,hd⟩⟩)
 refine zk 12 rfl (zC rfl aH (rfl) (zk 6 rfl (zo rfl (aD rfl rfl rfl (aY aK (s.aC (k:=0) rfl (aZ _ _)))) ?_)))
 rw[hM]
 refine zk 2 rfl (WP.block ?_)
 refine Vr hT (s.buf (k:=0) rfl).view hM (by omega) js h0 h1 (lo/8) 0 _ _ (by omega) ⟨rfl,rfl,rfl,rfl,rfl,aa⟩ (fun E' l2 l3=>⟨aa,_,wu l2 l3,.inr ⟨iQ,rfl,sH,hR.tr fK nc,?_⟩⟩)
 exact((s.ae [2]).del 3 |>.del 2).del 1
theorem SO (hT:W told)(hR:I4 told N lv dd sm rv A pg)(cA:lv ε)(hN:2≤N)(I:fY n R M (pg ε))(h1:∀j,j<n→bt M j=true)(s:Sat h (A ε::S)):
  Call ⟨Tryz.prog,told⟩ 162 [rv] h fun v h'=>(∃ag,v=.aT [.int .i64 0,.int .i64 9]∧Sat h' (A ag::S)∧dd ag)∨∃ag,v=.aT [.int .i64 (-1),.int .i64 0]∧lv ag∧sm ε ag∧Sat h' (A ag::S):=by
 obtain⟨ex,wP⟩:=I.head
 obtain⟨kd,lk,tW,uM⟩:=I.marks
 have hM:=I.ml
 have sA:=I.n2
 have D3:=I.n1
 refine Call.of_wp (hT.free _ rfl) Tryz.func162 rfl rfl (zK 8 rfl (zc rfl (Lq hT hR cA (by omega) wP I.rl s) ?_))
 rintro v h (⟨ep,rfl,s,hd⟩|⟨u,ep,rfl,ou,fK,s⟩)
 ·skip
  refine zk 12 rfl (zB rfl aH (by decide) ?_)
  exact zk 8 rfl (WP.ret ⟨aa,_,rfl,.inl ⟨ep,rfl,s,hd⟩⟩)
 refine zk 12 rfl (zC rfl aH (rfl) (zk 7 rfl (zc rfl (Gm hT (by omega) (by omega)) ?_)))
 rintro v h' ⟨rfl,rfl⟩
 refine zb rfl (by exact ew (aq (by omega) (by omega))) ?_
 refine zk 2 rfl (WP.block (WP.loop (zg rfl (zB rfl aO (by decide) ?_))))
 have uM:fA (pg ep 1) kd lk tW [M]:=by rw[hR.same fK];exact uM
 refine zk 5 rfl (WP.block (zK 9 rfl (zc rfl (DE hT hR ou hN uM hM (s.ae [1])) ?_)))
 rintro v h (⟨iQ,rfl,s,hd⟩|⟨w2,u2,iQ,rfl,sH,nc,s⟩)
 ·skip
  refine zk 12 rfl (zB rfl aH (by decide) ?_)
  exact zk 8 rfl (WP.ret ⟨aa,_,rfl,.inl ⟨iQ,rfl,s.del 1,hd⟩⟩)
 refine zk 12 rfl (zC rfl aH (rfl) (zk 6 rfl (zo rfl (aD rfl rfl rfl (aY aK (s.aC (k:=0) rfl (aZ _ _)))) ?_)))
 rw[hM]
 refine zk 2 rfl (WP.block ?_)
 refine SN hT (s.buf (k:=0) rfl).view hM (by omega) h1 I.hi 375 0 _ _ (by omega) ⟨rfl,rfl,rfl,rfl,rfl,rfl,rfl,aa⟩ (fun E' hE => ?_)
 refine WP.has hE (zr rfl (zb rfl (by exact aQ (aq (by omega) (by omega))) ?_))
 refine zm rfl (zv (WP.loop (zg rfl (zh rfl (ak rfl rfl aO) (by decide) ?_))))
 exact zk 3 rfl (WP.exit (zK 5 rfl (WP.ret ⟨aa,_,rfl,.inr ⟨iQ,rfl,sH,hR.tr fK nc,((s.ae [2]).del 3 |>.del 2).del 1⟩⟩)))
theorem aa6 (hT:W told)(hR:I4 told N lv dd sm rv A pg)(cA:lv ε)(hN:2≤N)(hp:fY n R M (pg ε))(hi:i<n)(s:Sat h (A ε::S)):
  Call ⟨Tryz.prog,told⟩ 201 [rv,.int .i64 (i:Int)] h fun v h'=>(∃ag,v=.aT [.bool false,.int .i64 9]∧Sat h' (A ag::S)∧dd ag)∨∃ag,v=.aT [.bool (bt M i),.int .i64 0]∧lv ag∧sm ε ag∧Sat h' (A ag::S):=by
 obtain⟨kd,lk,tW,uM⟩:=hp.marks
 have hM:=hp.ml
 have sA:=hp.n2
 refine Call.of_wp (hT.free _ rfl) Tryz.func201 rfl rfl (zK 9 rfl (zo rfl (ak (r:=.int .i64 0) rfl rfl (P7 (by omega))) ?_))
 refine zc rfl (DE hT hR cA hN uM hM s) ?_
 rintro v h (⟨I,rfl,s,hd⟩|⟨w2,u2,I,rfl,sH,nc,s⟩)
 ·skip
  refine zk 12 rfl (zB rfl aH (by decide) ?_)
  exact zk 8 rfl (WP.ret ⟨aa,_,rfl,.inl ⟨I,rfl,s,hd⟩⟩)
 have hb:M[i/8]?=some (M[i/8]'(by omega)):=aG _
 have sO:M.getD (i/8) 0=M[i/8]'(by omega):=by grind
 generalize (M[i/8]'(by omega))=x at hb sO
 have hv:=(s.buf (k:=0) rfl).view
 have hx:x<256:=hv.1 x (aM hb)
 have I7:x.testBit (i%8)=bt M i:=by rw[bt,sO]
 obtain⟨id,off,e1,e2⟩:=fg hv hb
 have AV:x/2^(i%8)<256:=Nat.lt_of_le_of_lt (Nat.div_le_self _ _) hx
 refine zk 12 rfl (zC rfl aH (rfl) (zk 7 rfl (zb rfl (P8 (by omega)) ?_)))
 refine zb rfl (DD (a:=i) (b:=8) (by decide) (by omega)) ?_
 refine zo rfl (bS (r:=.ptr id off) rfl rfl e1) (zl rfl e2 (zm rfl (zb rfl (P8 (by omega)) ?_)))
 refine zb rfl (PF (a:=i) (b:=8) (by decide)) ?_
 refine zb rfl (aa0 (a:=x) (k:=i%8) (by omega)) ?_
 refine zb rfl (aa2 (b:=1) AV (by decide)) ?_
 refine zo rfl (ak (r:=.bool (bt M i)) rfl rfl (by rw[←I7];exact aa5)) ?_
 exact zk 3 rfl (WP.ret ⟨aa,_,rfl,.inr ⟨I,rfl,sH,nc,(s.ae [2]).del 2 |>.del 1⟩⟩)
end
section
variable {P:Int→List Nat} {n2 m:Nat} {wq qw:List (List Nat)} {fP:List En} {nR nT:List Nat} {cut:Ky}
theorem Nv.two (h1:Nv F P l [] (some cut) wq jA nR)(g1:F l wq)(p1:bH (P m) 204 0 l wq)(h2:Nv F P l cut none qw fP nT)(g2:F l qw)(p2:bH (P n2) 204 0 l qw)(c1:[]<cut)(c3:1≤cut.length∧cut.length≤96)(hm:m<4294967296)(hn:n2<4294967296):
  Nv F P (l+1) [] none [eX m [],eX n2 cut] (jA++fP) (m::(nR++n2::nT)):=by
 refine⟨[⟨[],m,jA,nR⟩,⟨cut,n2,fP,nT⟩],rfl,⟨by simp,fun k I => ?_,fun k I => ?_,fun i k I h1 => ?_,fun i k I h1 => ?_,fun i j k k2 I mK h1 h2 => ?_⟩,by simp,by simp[ej],fun i k I => ?_⟩
 ·simp only[gj,jY,nE] at I
  rcases I with rfl|rfl
  ·exact hm
  ·exact hn
 ·simp only[gj,jY,nE] at I
  rcases I with rfl|rfl
  ·exact gu _
  ·exact c3.2
 ·obtain⟨i,rfl⟩:∃j,i=j+1:=⟨i-1,by omega⟩
  cases i with
  |zero=>simp at I;subst I;exact c3.1
  |succ i=>simp at I
 ·obtain⟨i,rfl⟩:∃j,i=j+1:=⟨i-1,by omega⟩
  cases i with
  |zero=>simp at I;subst I;exact⟨c1,fun b hb=>by cases hb⟩
  |succ i=>simp at I
 ·obtain⟨i,rfl⟩:∃j,i=j+1:=⟨i-1,by omega⟩
  obtain⟨j,rfl⟩:∃q,j=q+2:=⟨j-2,by omega⟩
  simp at mK
 ·match i,I with
  |0,I =>
   simp at I;subst I
   exact⟨wq,h1,g1,p1⟩
  |1,I =>
   simp at I;subst I
   exact⟨qw,h2,g2,p2⟩
  |i+2,I=>simp at I
theorem Sep.Lu {fQ:Ky}{eT:Option Ky}(h:Sep lo hi ks)(h1:fQ≤lo)(h2:∀b,eT=some b→∃a,hi=some a∧a≤b): Sep fQ eT ks :=
 { h with bd:=fun i k I q=>⟨by have:=(h.bd i k I q).1;grind,fun b hb=>by obtain⟨a,ha,l7⟩:=h2 b hb;have:=(h.bd i k I q).2 a ha;grind⟩ }
theorem Nv.Lu : ∀ {l:Nat} {lo fQ:Ky} {hi eT:Option Ky} {cs:List (List Nat)} {es:List En} {ps:List Nat},Nv F P l lo hi cs es ps→fQ≤lo→(∀b,eT=some b→∃a,hi=some a∧a≤b)→Nv F P l fQ eT cs es ps:=by
 intro l
 induction l with
 |zero=>intro lo fQ hi eT cs es ps ⟨h1,h2,h3⟩ a1 a2;exact⟨h1,{ h2 with bd:=fun e he=>(h2.bd e he).trans a1 a2 },h3⟩
 |succ l ih =>
  intro lo fQ hi eT cs es ps ⟨ks,h1,h2,h3,h4,h5⟩ a1 a2
  refine⟨ks,h1,h2.Lu a1 a2,h3,h4,fun i k hk => ?_⟩
  obtain⟨cs',b1,b2,b3⟩:=h5 i k hk
  refine⟨cs',ih b1 ?_ fun b I => ?_,b2,b3⟩
  ·unfold loK
   split
   ·exact a1
   ·exact nD _
  ·unfold cZ at I ⊢
   cases hq:ks[i+1]? with
   |none=>rw[hq] at I;exact a2 b I
   |some k=>rw[hq] at I;exact⟨k.key,rfl,by rw[bW I];exact nD _⟩
end
structure jC (N:Nat)(M:List Nat)(ps:List Nat): Prop where
 nd:ps.Nodup
 mc:∀p∈ps,2≤p∧p<N
 bits:∀j,j<N→bt M j=decide (j<2∨j∈ps)
section
theorem jC.low (h:jC N M ps)(hl:ps.length+2<N): ∃lo,lo<N∧bt M lo=false∧(∀j,j<lo→bt M j=true)∧2≤lo∧lo∉ps:=by
 have hex:∃lo,lo<N∧bt M lo=false:=by
  refine GP fun yA => ?_
  have kj:∀j,j<N→bt M j=true:=fun j hj=>by
   cases hb:bt M j with
   |true=>rfl
   |false=>exact absurd ⟨j,hj,hb⟩ yA
  have adC:∀j∈List.range N,j∈[0,1]++ps:=fun j hj=>by
   have I:=kj j (List.mem_range.1 hj)
   rw[h.bits j (List.mem_range.1 hj)] at I
   rcases pN I with q|q
   ·rw[nB];left
    simp only[gj,jY,nE];omega
   ·exact lF _ q
  have:=I1 List.nodup_range adC
  rw[List.length_range,aX] at this
  simp only[bq,cj] at this
  omega
 have main:∀n,(∃lo,lo<n∧lo<N∧bt M lo=false)→∃lo,lo<N∧bt M lo=false∧∀j,j<lo→bt M j=true:=by
  intro n
  induction n with
  |zero=>rintro⟨lo,I,_⟩;omega
  |succ n ih =>
   rintro⟨lo,I,h2,h3⟩
   by_cases q:∃lo,lo<n∧lo<N∧bt M lo=false
   ·exact ih q
   ·refine⟨lo,h2,h3,fun j hj => ?_⟩
    cases hb:bt M j with
    |true=>rfl
    |false=>exact absurd ⟨j,by omega,by omega,hb⟩ q
 obtain⟨lo,I,h2⟩:=hex
 obtain⟨lo,I,h2,h3⟩:=main N ⟨lo,I,I,h2⟩
 have h4:=h.bits lo I
 rw[h2] at h4
 have h5:=of_decide_eq_false h4.symm
 exact⟨lo,I,h2,h3,by omega,fun q=>h5 (.inr q)⟩
theorem jC.more (h:jC N M ps){z:Nat}(hz:z<N)(h2:2≤z)(hn:z∉ps)(hb:∀j,bt M' j=(bt M j||decide (j=z))): jC N M' (z::ps):=by
 refine⟨List.nodup_cons.2 ⟨hn,h.nd⟩,fun p I => ?_,fun j hj => ?_⟩
 ·rcases List.mem_cons.1 I with rfl|I
  ·exact⟨h2,hz⟩
  ·exact h.mc p I
 ·rw[hb,h.bits j hj,←Bool.decide_or]
  congr 1
  simp only[gj,eq_iff_iff]
  constructor
  ·rintro((q|q)|q)
   ·exact .inl q
   ·exact .inr (.inr q)
   ·exact .inr (.inl q)
  ·rintro(q|q|q)
   ·exact .inl (.inl q)
   ·exact .inr q
   ·exact .inl (.inr q)
theorem jC.perm (h:jC N M ps){qs:List Nat}(I:ps.Perm qs): jC N M qs :=
 ⟨I.nodup_iff.1 h.nd,fun p hq=>h.mc p (I.mem_iff.2 hq),fun j hj=>by rw[h.bits j hj];congr 1;rw[I.mem_iff]⟩
end
section
variable {v:V} {b:Nat} {bb:List Nat}
theorem qS (I:a≤b)(hb:b≤c.length): cf (oP v c) (oP (slR v a b) ((c.take b).drop a)):=fun _ _ h=>ViewM.slice h I hb
theorem Lv (hc:cs[i]?=some c)(hu:P.underlying t=some (.slice e))(he:bp P e=some 1)(ha:isAggT P e=some false)(s:Sat h (pt x (.cells 4 (uL n l bv cv) false)::.cg bv bb::roS 1 cv us::cX us cs::S)):
  ∃u id off,indexAddrV P t cv (.int .i64 (i:Int))=some (.ptr id off)∧loadV P h e (.ptr id off)=some u∧us[i]?=some u∧Sat h (pt x (.cells 4 (uL n l bv cv) false)::.cg bv bb::roS 1 cv us::cX us cs::oP u c::S):=by
 obtain⟨u,I,s1⟩:=SD (s.ae [3]) hc
 have hl:=jZ (s.ae [3])
 have hi:=(List.getElem?_eq_some_iff.1 hc).1
 obtain⟨id,off,e1,e2⟩:=aaW (P:=P) (t:=t) (e:=e) (i:=i) (s.kZ (j:=2) rfl (dK _ _ _)) (by omega) (by decide) hu he
 refine⟨u,id,off,e1,?_,I,?_⟩
 ·have:=e2 0 u e (by rw[dV,ig,ay (by decide),fb,eS];exact I) ha
  rwa [eS] at this
 ·have s1:=s1.ae [2,2,2,1,0]
  exact s1
theorem iJ (hu:P.underlying t=some (.slice e))(s:Sat h (pt x (.cells 4 (uL n l bv cv) false)::.cg bv bb::roS 1 cv us::cX us cs::S)): lenV P h t cv=some (.int .i64 (cs.length:Int)) :=
 SF (s.kZ (j:=2) rfl (dK _ _ _)) (by rw[jZ (s.ae [3]),dV]) (by decide) hu
end
section
variable {told:cE} {v vv:V} {k val:List Nat}
theorem y8 (hT:W told)(hc:cs[i]?=some c)(I:jQ l c)(hl:l≤64)(gy:c.length≤225)(s:Sat h (a_ x n l b cs::S)):
  Call ⟨Tryz.prog,told⟩ 117 [.ptr x 0,.int .i64 (i:Int)] h fun r h'=>Sat h' (oP r (gp l c)::a_ x n l b cs::S):=by
 obtain⟨bv,cv,us,s⟩:=bh.1 s
 obtain⟨u,id,off,e1,e2,hui,s⟩:=Lv (P:=Tryz.prog) hc aP dH bF s
 have hv:=s.aC (k:=4) rfl (bj _ _)
 refine Call.of_wp (hT.free _ rfl) Tryz.func117 rfl rfl (zK 9 rfl (zY s 0 fG b9 rfl ?_))
 by_cases h0:l=0
 ·subst h0
  have I:1≤c.length∧1+c.getD 0 0≤c.length:=I
  have m7:c[0]?=some (c.getD 0 0):=by grind
  obtain⟨lD,bo,e3,e4⟩:=fg hv m7
  have oV:gp 0 c=(c.take (1+c.getD 0 0)).drop 1:=by rw[gp,ay rfl,lM,sV]
  generalize c.getD 0 0=z at I m7 e3 e4 oV
  have hz:z<256:=hv.1 z (aM m7)
  refine zC rfl cV (by simp) ?_
  refine zk 4 rfl ?_
  have z0:=s
  refine WP.drawn [af,af,af,af,af,af,af,af,af,af,af,af,af,af,af,af,af,af,af] rfl (by kernel_rfl) (by kernel_rfl) ?_
  refine zM rfl (zN rfl (zF rfl (cN _ _) (zL rfl (s.ld (k:=0) rfl gz rfl) (zM rfl (zO rfl (bS (r:=.ptr id off) rfl rfl e1) (zL rfl e2 (zM rfl (zN rfl (zF rfl (cN _ _) (zL rfl (s.ld (k:=0) rfl gz rfl) (zM rfl (zO rfl (bS (r:=.ptr id off) rfl rfl e1) (zL rfl e2 (zO rfl (bS (r:=.ptr lD bo) rfl rfl e3) (zL rfl e4 (zO rfl (ak (r:=.int .u8 ((1+z:Nat):Int)) rfl rfl (by rw[show((1+z:Nat):Int)=1+(z:Int) by omega];exact aQ (vX (by omega) (by omega)))) ?_))))))))))))))))
  refine zO rfl (bO (p:=some (.int .i64 1)) (q:=some (.int .u8 ((1+z:Nat):Int))) (m:=none) (p':=some 1) (q':=some (1+z)) (m':=none) rfl rfl rfl rfl (by rfl) (by rw[bT (by omega)];rfl) rfl (fE hv (by omega) (by omega)).1) ?_
  refine zA rfl ?_
  refine aB.nil ⟨⟨aa,aa,aa,aa,aa,aa,aa,aa,aa,aa,aa,aa,aa,aa,aa,aa,aa,aa,aa,aa⟩,?_⟩
  refine WP.ret ⟨aa,_,rfl,?_⟩
  have s:=(s.ae [4]).dQ (qS (a:=1) (b:=1+z) (by omega) (by omega))
  rw[←oV] at s
  have s:=s.ae [1,1,1,1]
  exact((bh.2 ⟨bv,cv,us,s⟩).ae [1])
 ·have I:4≤c.length:=by rw[jQ,ai h0] at I;exact I
  have oV:gp l c=(c.take c.length).drop 4:=by rw[gp,ai h0,mo]
  refine zB rfl cV (by simp;omega) ?_
  refine zk 6 rfl (zY s 0 cN gz rfl (zm rfl (zo rfl (bS (r:=.ptr id off) rfl rfl e1) (zl rfl e2 (zo rfl (bO (p:=some (.int .i64 4)) (q:=none) (m:=none) (p':=some 4) (q':=none) (m':=none) rfl rfl rfl rfl (by rfl) rfl rfl (hU hv I).1) ?_)))))
  refine zk 2 rfl (WP.ret ⟨aa,_,rfl,?_⟩)
  have s:=(s.ae [4]).dQ (qS (a:=4) (b:=c.length) I (aI _))
  rw[←oV] at s
  have s:=s.ae [1,1,1,1]
  exact((bh.2 ⟨bv,cv,us,s⟩).ae [1])
theorem DG (hT:W told)(hc:cs[i]?=some c)(I:jQ 0 c)(gy:c.length≤225)(s:Sat h (a_ x n 0 b cs::S)):
  Call ⟨Tryz.prog,told⟩ 50 [.ptr x 0,.int .i64 (i:Int)] h fun r h'=>Sat h' (oP r (c.drop (1+c.getD 0 0))::a_ x n 0 b cs::S):=by
 obtain⟨bv,cv,us,s⟩:=bh.1 s
 obtain⟨u,id,off,e1,e2,hui,s⟩:=Lv (P:=Tryz.prog) hc aP dH bF s
 have hv:=s.aC (k:=4) rfl (bj _ _)
 have I:1≤c.length∧1+c.getD 0 0≤c.length:=I
 have m7:c[0]?=some (c.getD 0 0):=by grind
 obtain⟨lD,bo,e3,e4⟩:=fg hv m7
 have Bv:c.drop (1+c.getD 0 0)=(c.take c.length).drop (1+c.getD 0 0):=by rw[mo]
 rw[Bv]
 generalize c.getD 0 0=z at I m7 e3 e4
 have hz:z<256:=hv.1 z (aM m7)
 refine Call.of_wp (hT.free _ rfl) Tryz.func50 rfl rfl (zK 5 rfl ?_)
 have z0:=s
 refine WP.drawn [af,af,af,af,af,af,af,af,af,af,af,af,af,af,af,af,af,af,af,af] rfl (by kernel_rfl) (by kernel_rfl) ?_
 refine zM rfl (zN rfl (zF rfl (cN _ _) (zL rfl (s.ld (k:=0) rfl gz rfl) (zM rfl (zO rfl (bS (r:=.ptr id off) rfl rfl e1) (zL rfl e2 (zM rfl (zN rfl (zF rfl (cN _ _) (zL rfl (s.ld (k:=0) rfl gz rfl) (zM rfl (zO rfl (bS (r:=.ptr id off) rfl rfl e1) (zL rfl e2 (zO rfl (bS (r:=.ptr lD bo) rfl rfl e3) (zL rfl e4 (aB.op rfl rfl rfl (by simp only[isEff,cm]) (cL rfl (by exact kJ Tryz.underlying5 cm (aq (by omega) (by omega)))) ?_))))))))))))))))
 refine zO rfl (ak (r:=.int .i64 ((1+z:Nat):Int)) rfl rfl (by rw[show((1+z:Nat):Int)=1+(z:Int) by omega];exact aQ (aq (by omega) (by omega)))) ?_
 refine zO rfl (bO (p:=some (.int .i64 ((1+z:Nat):Int))) (q:=none) (m:=none) (p':=some (1+z)) (q':=none) (m':=none) rfl rfl rfl rfl (by rw[bT (by omega)];rfl) rfl rfl (hU hv (by omega)).1) ?_
 refine zA rfl ?_
 refine aB.nil ⟨⟨aa,aa,aa,aa,aa,aa,aa,aa,aa,aa,aa,aa,aa,aa,aa,aa,aa,aa,aa,aa,aa⟩,?_⟩
 refine WP.ret ⟨aa,_,rfl,?_⟩
 have s:=(s.ae [4]).dQ (qS (a:=1+z) (b:=c.length) (by omega) (aI _))
 have s:=s.ae [1,1,1,1]
 exact((bh.2 ⟨bv,cv,us,s⟩).ae [1])
theorem HY (hT:W told){k:Ky}{m:Nat}(hc:cs[i]?=some (eX m k))(hm:m<4294967296)(s:Sat h (a_ x n l b cs::S)):
  Call ⟨Tryz.prog,told⟩ 78 [.ptr x 0,.int .i64 (i:Int)] h fun r h'=>r=.int .i64 (m:Int)∧Sat h' (a_ x n l b cs::S):=by
 obtain⟨bv,cv,us,s⟩:=bh.1 s
 obtain⟨u,id,off,e1,e2,hui,s⟩:=Lv (P:=Tryz.prog) hc aP dH bF s
 have hv:=s.aC (k:=4) rfl (bj _ _)
 have I:=cJ 4 m
 have hl:4≤(eX m k).length:=by rw[eX,aX,I];omega
 have ht:((eX m k).take 4).drop 0=le 4 m:=by rw[ij,eX,gq I]
 refine Call.of_wp (hT.free _ rfl) Tryz.func78 rfl rfl (zK 8 rfl (zY s 0 cN gz rfl (zm rfl (zo rfl (bS (r:=.ptr id off) rfl rfl e1) (zl rfl e2 (zo rfl (bO (p:=none) (q:=some (.int .i64 4)) (m:=none) (p':=none) (q':=some 4) (m':=none) rfl rfl rfl rfl rfl (by rfl) rfl (Uu hv hl).1) ?_))))))
 have s:=(s.ae [4]).dQ (qS (a:=0) (b:=4) (gu _) hl)
 rw[ht] at s
 refine zc rfl (HH hT s (k:=0) rfl (bj _ _) (by rw[I];decide)) ?_
 rintro r h' ⟨rfl,rfl⟩
 rw[Cg,vm (by simpa using hm)]
 refine zo rfl (cL rfl (by exact kJ eM cm (aq (by omega) (by omega)))) ?_
 refine zk 2 rfl (WP.ret ⟨aa,_,rfl,?_⟩)
 have s:=s.ae [1,1,1,1]
 exact⟨rfl,(bh.2 ⟨bv,cv,us,s⟩).del 1⟩
theorem Y4 (hT:W told)(s:Sat h (X::Y::S))(I:cf X (cy kv k))(hY:cf Y (cy vv val))(hk:k.length≤200)(hv:val.length≤200):
  Call ⟨Tryz.prog,told⟩ 47 [kv,vv] h fun r h'=>Sat h' (aU r (ey (k,val))::X::Y::S):=by
 refine Call.of_wp (hT.free _ rfl) Tryz.func47 rfl rfl (zK 7 rfl (zo rfl (aD rfl rfl rfl (aY aK (s.aC (k:=0) rfl I))) (zo rfl (ak (r:=.int .i64 ((1+k.length:Nat):Int)) rfl rfl (by rw[show((1+k.length:Nat):Int)=1+(k.length:Int) by omega];exact aQ (aq (by omega) (by omega)))) ?_)))
 refine zm rfl (zo rfl (aD rfl rfl rfl (aY aK (s.aC (k:=1) rfl hY))) (zo rfl (ak (r:=.int .i64 ((1+k.length+val.length:Nat):Int)) rfl rfl (by rw[show((1+k.length+val.length:Nat):Int)=((1+k.length:Nat):Int)+(val.length:Int) by omega];exact aQ (aq (by omega) (by omega)))) ?_))
 refine au.any rfl rfl rfl (OpR.uc rfl s rfl rfl rfl rfl (by omega)) ?_
 intro w0 h s
 refine zm rfl (zo rfl (aD rfl rfl rfl (aY aK (s.aC (k:=1) rfl I))) (zo rfl (cL rfl (by exact kJ cm Tryz.underlying5 (vX (by omega) (by omega)))) ?_))
 refine au.any rfl rfl rfl (OpR.JK rfl s rfl rfl rfl (by omega)) ?_
 intro w1 h s
 refine au.any rfl rfl rfl (OpR.qh rfl (s.ae [1,0]) (aZ _ _) rfl rfl rfl rfl (by simp)) ?_
 intro w2 h s
 have s:=(s.del 1).ae [0,0,0]
 refine zm rfl (au.any rfl rfl rfl (OpR.qh rfl s I rfl rfl rfl rfl (by simp;omega)) ?_)
 intro w3 h s
 refine zm rfl (au.any rfl rfl rfl (OpR.qh rfl (s.ae [0,1]) hY rfl rfl rfl rfl (by simp;omega)) ?_)
 intro w4 h s
 refine zk 2 rfl (WP.ret ⟨aa,_,rfl,?_⟩)
 have s:=s.ae [0,1,0]
 exact s
theorem y9 (I:W told){m:Nat}(hm:m<4294967296)(s:Sat h (X::S))(hX:cf X (cy kv k))(hk:k.length≤200):
  Call ⟨Tryz.prog,told⟩ 132 [.int .i64 (m:Int),kv] h fun r h'=>Sat h' (aU r (eX m k)::X::S):=by
 have s:=s.t_
 refine Call.of_wp (I.free _ rfl) Tryz.func132 rfl rfl (zK 7 rfl (zo rfl (cL rfl (by exact kJ cm eM (iD (by omega) (by omega)))) ?_))
 refine zc rfl (F3 (l:=[]) (z:=4) (n:=m) I s (by decide) (by rw[cj];omega)) ?_
 intro bv h s
 rw[dG] at s
 have h4:=cJ 4 m
 refine zm rfl (au.any rfl rfl rfl (OpR.qh rfl s hX rfl rfl rfl rfl (by omega)) ?_)
 intro w h s
 exact zk 2 rfl (WP.ret ⟨aa,_,rfl,s⟩)
end
def SA (a p q r:Nat)(op:V)(data:List Nat)(aN:Nat)(ε:bE): aE:=star [gD a p q r op data aN,gn r p q ε.1,dm q p ε.2.1,bZ p ε.2.2]
def GA (g a p q r:Nat)(data:List Nat)(aN:Nat)(now:List (Int×List Nat))(ε:bE): aE:=star [iI g a now false,gD a p q r (.ptr g 0) data aN,gn r p q ε.1,dm q p ε.2.1,bZ p ε.2.2]
def pgG (now:List (Int×List Nat))(ε:bE)(n:Int): List Nat:=match lookL n now with
 |some b=>b
 |none=>pgA ε n
theorem gA (h:Sm N ε ag): pgG now ag=pgG now ε:=by
 funext n
 unfold pgG
 rw[h.1]
theorem eH {i n:Int}: pgG (cD i b now) ε n=if i=n then b else pgG now ε n:=by
 grind[pgG,o6]
section
variable {told:cE} {p:Nat} {v x op:V} {l:List Nat} {sm:bE→bE→Prop}
theorem EG (hT:W told)(hB:B≤2000): rO told N B (.iface 24 (.ptr a 0)) (SA a p q r op data aN) pgA:=by
 refine⟨⟨_,_,_,rfl,YR,fun {h S ε n} I h0 h1 s => ?_⟩,fun hs=>hs.1⟩
 have Ap:=I.dz
 have hwt:=tw (ε:=ε)
 have s:=cK.1 s
 refine(Ey hT (n:=n) s I.ok.ok I.ok.pins (by omega)).mono ?_
 rintro v h ⟨e,b,ag,hr,hs⟩
 obtain⟨k1,k2,k3,k4⟩:=hr.ec I.ec I.ok.pins
 obtain⟨rfl,rfl⟩:=k3 h0 h1
 rcases hs with⟨he,_⟩|⟨_,u,rfl,s⟩
 ·omega
 ·have s2:Sat h (SA a p q r op data aN ag::aU u (pgA ε n)::S):=cK.2 (s.ae [1,1,1,1,0])
  exact⟨u,ag,rfl,I.rd hr,⟨k2,fun P hP hv=>hP.rd hr I.ec hv,hr.dz⟩,s2.ae [1]⟩
theorem EH (hT:W told)(hB:B≤2000)(hw:NW N now): rO told N B (.iface 32 (.ptr g 0)) (GA g a p q r data aN now) (pgG now):=by
 refine⟨⟨_,_,_,rfl,NO,fun {h S ε n} I h0 h1 s => ?_⟩,fun hs m=>by rw[gA hs]⟩
 have Ap:=I.dz
 have hwt:=tw (ε:=ε)
 have s:=cK.1 s
 refine(KT hT (n:=n) s I.ok (by omega) (fun e he=>jK (hw.good e he).1)).mono ?_
 rintro v h ⟨e,b,ag,hr,hs⟩
 obtain⟨k1,k2,k3,k4⟩:=hr.ec I.ec I.ok.pins
 obtain⟨rfl,hb⟩:=k3 h0 h1
 have hb:b=pgG now ε n:=hb
 subst hb
 rcases hs with⟨he,_⟩|⟨_,u,rfl,s⟩
 ·omega
 ·have s2:Sat h (GA g a p q r data aN now ag::aU u (pgG now ε n)::S):=cK.2 (s.ae [1,1,1,1,1,0])
  exact⟨u,ag,rfl,I.Ce hr,⟨k2,fun P hP hv=>hP.Ce hr I.ec hv,hr.dz⟩,s2.ae [1]⟩
theorem P9 (hT:W told)(hB:B≤2000)(I:EI N B ε)(hw:NW N now)(hi:i<N)(s:Sat h (GA g a p q r data aN now ε::X::S))(hX:cf X (cy x b))(hp:fA b kd link extra cs):
  Call ⟨Tryz.prog,told⟩ 55 [.ptr g 0,.int .i64 (i:Int),x] h fun v h'=>∃ag,v=.int .i64 0∧EI N B ag∧Sm N ε ag∧NW N (cD (i:Int) b now)∧Sat h' (GA g a p q r data aN (cD (i:Int) b now) ag::X::S):=by
 have Ap:=I.dz
 have hwt:=tw (ε:=ε)
 have hlen:=hp.len
 have hb:=(s.aC (k:=1) rfl hX).1
 have s:=cK.1 s
 refine(IU hT (n:=(i:Int)) s hX (by omega) I.ok (by omega) (fun e he=>jK (hw.good e he).1)).mono ?_
 rintro v h ⟨e,aF,ag,hr,rfl,s⟩
 obtain⟨k1,k2,k3,k4,k5⟩:=hr.ec I.ec I.ok.pins
 obtain⟨rfl,rfl⟩:=k5 (by omega) (by omega) hp.good
 exact⟨ag,rfl,I.KZ hr,⟨k2,fun P hP hv=>hP.KZ hr I.ec hv,hr.dz⟩,hw.put (by omega) (by omega) hp.good hb,cK.2 s⟩
structure Mo (told:cE)(N:Nat)(lv dd:bE→Prop)(sm:bE→bE→Prop): Prop where
 rf:∀a:bE,sm a a
 tr:∀ {a b c:bE},sm a b→sm b c→sm a c
 pg:∀ {a b:bE},sm a b→∀m,pgA b m=pgA a m
 gr:∀ {g a p q r aN:Nat} {data:List Nat} {now:List (Int×List Nat)},NW N now→I4 told N lv dd sm (.iface 32 (.ptr g 0)) (GA g a p q r data aN now) (pgG now)
 gw:∀ {h:H} {S:List aE} {X:aE} {g a p q r aN i kd link extra:Nat} {data b:List Nat} {now:List (Int×List Nat)} {x:V} {cs:List (List Nat)} {ε:bE},lv ε→NW N now→i<N→Sat h (GA g a p q r data aN now ε::X::S)→cf X (cy x b)→fA b kd link extra cs →
  Call ⟨Tryz.prog,told⟩ 55 [.ptr g 0,.int .i64 (i:Int),x] h fun v h'=>(∃ag,v=.int .i64 9∧Sat h' (GA g a p q r data aN now ag::X::S)∧dd ag)∨∃ag,v=.int .i64 0∧lv ag∧sm ε ag∧NW N (cD (i:Int) b now)∧Sat h' (GA g a p q r data aN (cD (i:Int) b now) ag::X::S)
 dr:∀ {h:H} {S:List aE} {g a p q r aN:Nat} {data:List Nat} {now:List (Int×List Nat)} {ε:bE} {n:Int},dd ε→NW N now→Sat h (GA g a p q r data aN now ε::S) →
  Call ⟨Tryz.prog,told⟩ 255 [.ptr g 0,.int .i64 n] h fun v h'=>∃(w:V) (e:Int) (ag:bE),v=.aT [w,.int .i64 e]∧dd ag∧Sat h' (GA g a p q r data aN now ag::S)
theorem Mo.live (hT:W told)(hB:B≤2000): Mo told N (EI N B) noD (Sm N) :=
 ⟨Sm.refl N,Sm.trans,fun h=>h.1,fun hw=>(EH hT hB hw).m,fun I hw hi s hX hp=>(P9 hT hB I hw hi s hX hp).mono fun _ _ k=>.inr k,fun hd=>hd.elim⟩
theorem Mo.pgG (I:Mo told N lv dd sm)(h:sm ε ag): Am.pgG now ag=Am.pgG now ε:=by
 funext n
 unfold Am.pgG
 rw[I.pg h]
def Xt (N g a p q r:Nat)(data:List Nat)(aN:Nat)(dd:bE→Prop)(S:List aE)(h:H): Prop:=∃(ε:bE) (now:List (Int×List Nat)),NW N now∧Sat h (GA g a p q r data aN now ε::S)∧dd ε
theorem fY.put {P:Int→List Nat}(h:fY N R M P)(I:P' 0=P 0)(h1:∃kd lk ex,fA (P' 1) kd lk ex [M'])(hl:M'.length=375)(ho:∀j,j<2→bt M' j=true)(hh:∀j,N≤j→bt M' j=false): fY N R M' P' :=
 ⟨by rw[I];exact h.head,h.rl,h1,hl,h.n1,h.n2,ho,hh⟩
theorem ga {i:Int}: ∀ {now:List (Int×List Nat)},(cD i b now).length≤now.length+1:=by
 intro now
 induction now<;>grind[cD]
theorem SP (hT:W told)(hM:Mo told N lv dd sm)(cA:lv ε)(hw:NW N now)(hp:fY N R M (pgG now ε))(hi:i<N)(fy:2≤i){bl:Bool}(s:Sat h (GA g a p q r data aN now ε::S)):
  Call ⟨Tryz.prog,told⟩ 168 [.ptr g 0,.int .i64 (i:Int),.bool bl] h fun v h'=>(v=.int .i64 9∧Xt N g a p q r data aN dd S h')∨∃ag aF,v=.int .i64 0∧lv ag∧sm ε ag∧NW N aF∧aF.length≤now.length+1∧fY N R (if bl then Gn M i else I6 M i) (pgG aF ag)∧(∀m,m≠1→pgG aF ag m=pgG now ε m) ∧
   Sat h' (GA g a p q r data aN aF ag::S):=by
 obtain⟨kd,lk,tW,uM⟩:=hp.marks
 have hMl:=hp.ml
 have sA:=hp.n2
 have hi8:i/8<M.length:=by omega
 have hb:M[i/8]?=some (M[i/8]'(by omega)):=aG _
 have sO:M.getD (i/8) 0=M[i/8]'(by omega):=by grind
 generalize (M[i/8]'(by omega))=z at hb sO
 -- what is so behind it
 have fin:∀ {ag:bE} {b':List Nat} {M':List Nat},sm ε ag→fA b' kd lk tW [M']→M'.length=375→(∀j,bt M' j=if j=i then bl else bt M j)→fY N R M' (pgG (cD 1 b' now) ag)∧(∀m,m≠1→pgG (cD 1 b' now) ag m=pgG now ε m):=fun {ag b' M'} hs I hl I7 =>
  ⟨hp.put (by rw[eH,ai (by decide),hM.pgG hs]) ⟨_,_,_,by rw[eH,ay rfl];exact I⟩ hl (fun j hj=>by rw[I7,ai (by omega)];exact hp.own j hj) (fun j hj=>by rw[I7,ai (by omega)];exact hp.hi j hj),
   fun m hm=>by rw[eH,ai (by omega),hM.pgG hs]⟩
 refine Call.of_wp (hT.free _ rfl) Tryz.func168 rfl rfl (zK 7 rfl (zo rfl (mI rfl (mki_of jT rfl)) (zm rfl (zo rfl (ak (r:=.int .i64 0) rfl rfl (P7 (by omega))) ?_))))
 refine zc rfl (DE hT (hM.gr hw) cA (by omega) uM hMl s) ?_
 rintro v h (⟨iQ,rfl,s,hd⟩|⟨w2,u2,iQ,rfl,sH,nc,s⟩)
 ·skip
  refine zk 12 rfl (zB rfl aH (by decide) ?_)
  exact zk 7 rfl (WP.ret ⟨aa,_,rfl,.inl ⟨rfl,iQ,now,hw,s,hd⟩⟩)
 have hv:=(s.buf (k:=0) rfl).view
 have hz:z<256:=hv.1 z (aM hb)
 have h2k:2^(i%8)<256:=yc (a:=2) (n:=8) (by decide) (by omega)
 obtain⟨id,off,e1,e2⟩:=fg hv hb
 refine zk 12 rfl (zC rfl aH (rfl) (zk 6 rfl (zb rfl (P8 (by omega)) ?_)))
 refine zb rfl (PF (a:=i) (b:=8) (by decide)) ?_
 refine zb rfl (aa1 (k:=i%8) (by omega)) ?_
 refine zk 6 rfl (zb rfl (P8 (by omega)) ?_)
 refine zb rfl (DD (a:=i) (b:=8) (by decide) (by omega)) ?_
 refine zk 6 rfl ?_
 cases bl with
 |true =>
  obtain⟨xA,sI,e3,h4,e4,s2⟩:=qv s (i:=i/8) (b:=Nat.lor z (2^(i%8))) (by omega) (SK hz (by omega))
  have ee:V.ptr id off=V.ptr xA sI:=by grind
  rw[←ee] at e4
  refine zK 4 rfl (zo rfl (bS (r:=.ptr id off) rfl rfl e1) (zl rfl e2 (zm rfl (zb rfl (acv hz (by omega)) ?_))))
  refine zo rfl (bS (r:=.ptr id off) rfl rfl e1) (zS rfl (⟨h4,e4,s2⟩) ?_)
  rintro h s
  rw[←sO] at s
  have s:Sat h (aU u2 (Gn M i)::_):=s
  refine zk 6 rfl (zc rfl (NU (i:=0) (c:=M) hT (s.ae [1,0]) (aZ _ _) (aZ _ _) uM rfl N_) ?_)
  rintro v h ⟨w3,b',rfl,I,s⟩
  refine zk 9 rfl (zC rfl aH (rfl) (zk 7 rfl (zo rfl (ak (r:=.int .i64 0) rfl rfl (P7 (by omega))) ?_)))
  refine zb rfl (by exact aQ (aq (by omega) (by omega))) ?_
  refine zm rfl (zc rfl (hM.gw (i:=1) sH hw (by omega) (s.ae [3,0]) (aZ _ _) I) ?_)
  rintro v h (⟨kC,rfl,s,hd⟩|⟨kC,rfl,Ea,wC,y_,s⟩)
  ·skip
   exact zk 2 rfl (WP.ret ⟨aa,_,rfl,.inl ⟨rfl,kC,now,hw,((s.ae [0]).del 3 |>.del 2).del 1,hd⟩⟩)
  refine zk 2 rfl (WP.ret ⟨aa,_,rfl,?_⟩)
  obtain⟨f1,f2⟩:=fin (hM.tr nc wC) I (by rw[N_];exact hMl) (fun j=>Xr hi8)
  exact .inr ⟨kC,_,rfl,Ea,hM.tr nc wC,y_,ga,f1,f2,((s.ae [0]).del 3 |>.del 2).del 1⟩
 |false =>
  obtain⟨xA,sI,e3,h4,e4,s2⟩:=qv s (i:=i/8) (b:=Nat.land z (255-2^(i%8))) (by omega) (HX hz)
  have ee:V.ptr id off=V.ptr xA sI:=by grind
  rw[←ee] at e4
  refine zK 4 rfl (zo rfl (bS (r:=.ptr id off) rfl rfl e1) (zl rfl e2 (zm rfl (zb rfl (SL hz h2k) (zo rfl (bS (r:=.ptr id off) rfl rfl e1) (zS rfl (⟨h4,e4,s2⟩) ?_))))))
  rintro h s
  rw[←sO] at s
  have s:Sat h (aU u2 (I6 M i)::_):=s
  refine zk 6 rfl (zc rfl (NU (i:=0) (c:=M) hT (s.ae [1,0]) (aZ _ _) (aZ _ _) uM rfl Oa) ?_)
  rintro v h ⟨w3,b',rfl,I,s⟩
  refine zk 9 rfl (zC rfl aH (rfl) (zk 7 rfl (zo rfl (ak (r:=.int .i64 0) rfl rfl (P7 (by omega))) ?_)))
  refine zb rfl (by exact aQ (aq (by omega) (by omega))) ?_
  refine zm rfl (zc rfl (hM.gw (i:=1) sH hw (by omega) (s.ae [3,0]) (aZ _ _) I) ?_)
  rintro v h (⟨kC,rfl,s,hd⟩|⟨kC,rfl,Ea,wC,y_,s⟩)
  ·skip
   exact zk 2 rfl (WP.ret ⟨aa,_,rfl,.inl ⟨rfl,kC,now,hw,((s.ae [0]).del 3 |>.del 2).del 1,hd⟩⟩)
  refine zk 2 rfl (WP.ret ⟨aa,_,rfl,?_⟩)
  obtain⟨f1,f2⟩:=fin (hM.tr nc wC) I (by rw[Oa];exact hMl) (fun j=>Xs hi8)
  exact .inr ⟨kC,_,rfl,Ea,hM.tr nc wC,y_,ga,f1,f2,((s.ae [0]).del 3 |>.del 2).del 1⟩
theorem Y5 (hT:W told)(hM:Mo told N lv dd sm)(cA:lv ε)(hw:NW N now)(hp:fY N R M (pgG now ε)){lo:Nat}(js:lo<N)(h0:bt M lo=false)(h1:∀j,j<lo→bt M j=true)(s:Sat h (GA g a p q r data aN now ε::S)):
  Call ⟨Tryz.prog,told⟩ 100 [.ptr g 0] h fun v h'=>(v=.aT [.int .i64 0,.int .i64 9]∧Xt N g a p q r data aN dd S h')∨∃ag aF,v=.aT [.int .i64 (lo:Int),.int .i64 0]∧lv ag∧sm ε ag∧NW N aF∧aF.length≤now.length+2∧fY N R (Gn M lo) (pgG aF ag)∧(∀m,m≠1→m≠(lo:Int)→pgG aF ag m=pgG now ε m)∧fA (pgG aF ag lo) 0 0 0 []∧pgG aF ag lo=xR 0 ∧
   Sat h' (GA g a p q r data aN aF ag::S):=by
 have D3:=hp.n1
 have h2:2≤lo:=by
  rcases sX lo 2 with hq|hq
  ·rw[hp.own lo hq] at h0;cases h0
  ·exact hq
 refine Call.of_wp (hT.free _ rfl) Tryz.func100 rfl rfl (zK 8 rfl (zo rfl (mI rfl (mki_of jT rfl)) (zc rfl (Vs hT (hM.gr hw) cA (by omega) hp js h0 h1 s) ?_)))
 rintro v h (⟨ep,rfl,s,hd⟩|⟨ep,rfl,ou,fK,s⟩)
 ·skip
  refine zk 7 rfl (WP.block (zK 3 rfl (zB rfl aH (by decide) ?_)))
  exact zk 9 rfl (WP.ret ⟨aa,_,rfl,.inl ⟨rfl,ep,now,hw,s,hd⟩⟩)
 have uM:fY N R M (pgG now ep):=by rw[hM.pgG fK];exact hp
 refine zk 7 rfl (WP.block (zK 3 rfl (zC rfl aH (rfl) (zk 6 rfl (zC rfl aO (by simp) ?_)))))
 refine za rfl (zv (zj rfl (WP.skip (zw (zg rfl (zk 2 rfl (zc rfl (SP (bl:=true) hT hM ou hw uM js h2 s) ?_)))))))
 rintro v h (⟨rfl,hd⟩|⟨iQ,mh,rfl,sH,nc,Xu,iA,I,yQ,s⟩)
 ·skip
  refine zk 5 rfl (zB rfl aH (by decide) ?_)
  exact zk 8 rfl (WP.ret ⟨aa,_,rfl,.inl ⟨rfl,hd⟩⟩)
 refine za rfl (zv (zg rfl (zm rfl (zh rfl (ak rfl rfl aH) (rfl) (zv (zj rfl (WP.skip (zg rfl (zc rfl (IX (kd:=0) hT s (by decide)) ?_)))))))))
 rintro v h ⟨u,rfl,s⟩
 have p_:fA (xR 0) 0 0 0 []:=fA.new (k:=0)
 generalize hbn:xR 0=b' at s p_
 refine zk 12 rfl (zc rfl (hM.gw (i:=lo) sH Xu js (s.ae [1,0]) (aZ _ _) p_) ?_)
 rintro v h (⟨kC,rfl,s,hd⟩|⟨kC,rfl,Ea,wC,y_,s⟩)
 ·skip
  refine zk 5 rfl (zB rfl aH (by decide) ?_)
  exact zk 8 rfl (WP.ret ⟨aa,_,rfl,.inl ⟨rfl,kC,mh,Xu,s.del 1,hd⟩⟩)
 refine zk 5 rfl (zC rfl aH (rfl) (zk 9 rfl (WP.ret ⟨aa,_,rfl,?_⟩)))
 have I:fY N R (Gn M lo) (pgG mh iQ):=I
 refine .inr ⟨kC,_,rfl,Ea,hM.tr (hM.tr fK nc) wC,y_,cY ga (by omega),I.put (by rw[eH,ai (by omega),hM.pgG wC]) ?_ I.ml I.own I.hi,fun m l8 sN=>by rw[eH,ai (by omega),hM.pgG wC,yQ m l8,hM.pgG fK],by grind[eH],by rw[eH,ay rfl],s.del 1⟩
 rw[eH,ai (by omega),hM.pgG wC]
 exact I.marks
theorem SQ (hT:W told)(hB:B≤2000)(I:EI N B ε)(hw:NW N now)(hp:fY N R M (pgG now ε)){lo:Nat}(js:lo<N)(h0:bt M lo=false)(h1:∀j,j<lo→bt M j=true)(s:Sat h (GA g a p q r data aN now ε::S)):
  Call ⟨Tryz.prog,told⟩ 100 [.ptr g 0] h fun v h'=>∃ag aF,v=.aT [.int .i64 (lo:Int),.int .i64 0]∧EI N B ag∧Sm N ε ag∧NW N aF∧aF.length≤now.length+2∧fY N R (Gn M lo) (pgG aF ag)∧(∀m,m≠1→m≠(lo:Int)→pgG aF ag m=pgG now ε m)∧fA (pgG aF ag lo) 0 0 0 []∧pgG aF ag lo=xR 0 ∧
   Sat h' (GA g a p q r data aN aF ag::S) :=
 (Y5 hT (Mo.live hT hB) I hw hp js h0 h1 s).mono fun _ _ k=>k.resolve_left fun⟨_,_,_,_,_,q⟩=>q
theorem Vt (hT:W told)(hM:Mo told N lv dd sm)(cA:lv ε)(hw:NW N now)(hp:fY N R M (pgG now ε))(h1:∀j,j<N→bt M j=true)(s:Sat h (GA g a p q r data aN now ε::S)):
  Call ⟨Tryz.prog,told⟩ 100 [.ptr g 0] h fun v h'=>(v=.aT [.int .i64 0,.int .i64 9]∧Xt N g a p q r data aN dd S h')∨∃ag,v=.aT [.int .i64 0,.int .i64 7]∧lv ag∧sm ε ag∧Sat h' (GA g a p q r data aN now ag::S):=by
 have D3:=hp.n1
 refine Call.of_wp (hT.free _ rfl) Tryz.func100 rfl rfl (zK 8 rfl (zo rfl (mI rfl (mki_of jT rfl)) (zc rfl (SO hT (hM.gr hw) cA (by omega) hp h1 s) ?_)))
 rintro v h (⟨ep,rfl,s,hd⟩|⟨ep,rfl,I,fK,s⟩)
 ·skip
  refine zk 7 rfl (WP.block (zK 3 rfl (zB rfl aH (by decide) ?_)))
  exact zk 9 rfl (WP.ret ⟨aa,_,rfl,.inl ⟨rfl,ep,now,hw,s,hd⟩⟩)
 refine zk 7 rfl (WP.block (zK 3 rfl (zC rfl aH (rfl) (zk 6 rfl (zB rfl aO (by decide) ?_)))))
 exact zk 8 rfl (WP.ret ⟨aa,_,rfl,.inr ⟨ep,rfl,I,fK,s⟩⟩)
theorem P_ (hT:W told)(hB:B≤2000)(I:EI N B ε)(hw:NW N now)(hp:fY N R M (pgG now ε))(h1:∀j,j<N→bt M j=true)(s:Sat h (GA g a p q r data aN now ε::S)):
  Call ⟨Tryz.prog,told⟩ 100 [.ptr g 0] h fun v h'=>∃ag,v=.aT [.int .i64 0,.int .i64 7]∧EI N B ag∧Sm N ε ag∧Sat h' (GA g a p q r data aN now ag::S) :=
 (Vt hT (Mo.live hT hB) I hw hp h1 s).mono fun _ _ k=>k.resolve_left fun⟨_,_,_,_,_,q⟩=>q
theorem Y6 (hT:W told)(hM:Mo told N lv dd sm)(cA:lv ε)(hw:NW N now)(hp:fY N R M (pgG now ε)){i:Int}(s:Sat h (GA g a p q r data aN now ε::S)):
  Call ⟨Tryz.prog,told⟩ 155 [.ptr g 0,.int .i64 i] h fun v h'=>(v=.int .i64 9∧Xt N g a p q r data aN dd S h')∨∃ag aF,lv ag∧sm ε ag∧NW N aF∧aF.length≤now.length+1∧Sat h' (GA g a p q r data aN aF ag::S) ∧
   ((¬(2≤i∧i<N∧bt M i.toNat=true)∧v=.int .i64 18∧aF=now)∨(2≤i∧i<N∧bt M i.toNat=true∧v=.int .i64 0∧fY N R (I6 M i.toNat) (pgG aF ag)∧∀m,m≠1→pgG aF ag m=pgG now ε m)):=by
 obtain⟨ex,wP⟩:=hp.head
 have D3:=hp.n1
 have sA:=hp.n2
 refine Call.of_wp (hT.free _ rfl) Tryz.func155 rfl rfl (zK 7 rfl (zo rfl (mI rfl (mki_of jT rfl)) (zc rfl (Lq hT (hM.gr hw) cA (by omega) wP hp.rl s) ?_)))
 rintro v h (⟨ep,rfl,s,hd⟩|⟨u,ep,rfl,ou,fK,s⟩)
 ·skip
  refine zk 9 rfl (WP.block (zK 3 rfl (zB rfl aH (by decide) ?_)))
  exact zk 8 rfl (WP.ret ⟨aa,_,rfl,.inl ⟨rfl,ep,now,hw,s,hd⟩⟩)
 have uM:fY N R M (pgG now ep):=by rw[hM.pgG fK];exact hp
 refine zk 9 rfl (WP.block (zK 3 rfl (zC rfl aH (rfl) (zk 7 rfl (zc rfl (Gm hT (by omega) (by omega)) ?_)))))
 rintro v h' ⟨rfl,rfl⟩
 by_cases js:i<2
 ·skip
  refine zB rfl aO (by grind) ?_
  exact zk 12 rfl (WP.ret ⟨aa,_,rfl,.inr ⟨ep,now,ou,fK,hw,rq _,s.drop,.inl ⟨by omega,rfl,rfl⟩⟩⟩)
 ·skip
  refine zC rfl aO (by grind) ?_
  refine zk 3 rfl ?_
  by_cases hhi:(N:Int)≤i
  ·skip
   refine zB rfl mV (by grind) ?_
   exact zk 8 rfl (WP.ret ⟨aa,_,rfl,.inr ⟨ep,now,ou,fK,hw,rq _,s.drop,.inl ⟨by omega,rfl,rfl⟩⟩⟩)
  ·skip
   refine zC rfl mV (by grind) ?_
   obtain⟨k,rfl⟩:∃k:Nat,i=k:=⟨i.toNat,by omega⟩
   refine zk 2 rfl (zv (zj rfl (WP.skip (zg rfl (zm rfl (zo rfl (mI rfl (mki_of jT rfl)) (zm rfl (zc rfl (aa6 (i:=k) hT (hM.gr hw) ou (by omega) uM (by omega) (s.ae [1])) ?_))))))))
   rintro v h (⟨iQ,rfl,s,hd⟩|⟨iQ,rfl,sH,nc,s⟩)
   ·skip
    refine zk 7 rfl (WP.block (zK 3 rfl (zB rfl aH (by decide) ?_)))
    exact zk 8 rfl (WP.ret ⟨aa,_,rfl,.inl ⟨rfl,iQ,now,hw,s.del 1,hd⟩⟩)
   have AZ:fY N R M (pgG now iQ):=by rw[hM.pgG nc];exact uM
   refine zk 7 rfl (WP.block (zK 3 rfl (zC rfl aH (rfl) (zk 6 rfl (zo rfl (dZ rfl rfl) (zk 2 rfl ?_))))))
   cases hb:bt M k with
   |false =>
    exact zK 5 rfl (WP.ret ⟨aa,_,rfl,.inr ⟨iQ,now,sH,hM.tr fK nc,hw,rq _,s.del 1,.inl ⟨fun⟨_,_,q⟩=>(by grind),rfl,rfl⟩⟩⟩)
   |true =>
    refine zj rfl (WP.skip (zg rfl (zk 2 rfl (zc rfl (SP (bl:=false) hT hM sH hw AZ (i:=k) (by omega) (by omega) s) ?_))))
    rintro v h (⟨rfl,kC,I,y_,s,hd⟩|⟨kC,I,rfl,Ea,wC,y_,hl3,hp3,ho3,s⟩)
    ·skip
     exact zk 2 rfl (WP.ret ⟨aa,_,rfl,.inl ⟨rfl,kC,I,y_,s.del 1,hd⟩⟩)
    refine zk 2 rfl (WP.ret ⟨aa,_,rfl,?_⟩)
    have hp3:fY N R (I6 M k) (pgG I kC):=hp3
    exact .inr ⟨kC,I,Ea,hM.tr (hM.tr fK nc) wC,y_,hl3,s.del 1,.inr ⟨by omega,by omega,by grind,rfl,by grind,fun m hm=>by rw[ho3 m hm,hM.pgG nc,hM.pgG fK]⟩⟩
theorem SR (hT:W told)(hB:B≤2000)(I:EI N B ε)(hw:NW N now)(hp:fY N R M (pgG now ε)){i:Int}(s:Sat h (GA g a p q r data aN now ε::S)):
  Call ⟨Tryz.prog,told⟩ 155 [.ptr g 0,.int .i64 i] h fun v h'=>∃ag aF,EI N B ag∧Sm N ε ag∧NW N aF∧aF.length≤now.length+1∧Sat h' (GA g a p q r data aN aF ag::S) ∧
   ((¬(2≤i∧i<N∧bt M i.toNat=true)∧v=.int .i64 18∧aF=now)∨(2≤i∧i<N∧bt M i.toNat=true∧v=.int .i64 0∧fY N R (I6 M i.toNat) (pgG aF ag)∧∀m,m≠1→pgG aF ag m=pgG now ε m)) :=
 (Y6 hT (Mo.live hT hB) I hw hp s).mono fun _ _ k=>k.resolve_left fun⟨_,_,_,_,_,q⟩=>q
end
def sdep : Code→Nat
 |.seq a b=>1+max (sdep a) (sdep b)
 |_=>1
def WPd (C:gE)(ax:Nat)(code:Code)(E:List (Nat×V))(h:H)(d:rZ)(Q:Ex→List (Nat×V)→H→rZ→Prop): Prop :=
 ∀env,lU env E→∃N0 ex I h' E' d',(∀N m,N0≤N→sdep code≤m→evTop C N m code ⟨env,ax,h⟩ d=some (ex,⟨I,ax,h'⟩,d'))∧lU I E'∧Q ex E' h' d'
section
variable {ax:Nat} {Q:Ex→List (Nat×V)→H→rZ→Prop}
def noDef : List Oper→Bool
 |[]=>true
 |o::l=>(match o.op with
  |.defer _=>false
  |_=>true)&&noDef l
def noDefC : Code→Bool
 |.seq a b=>noDefC a&&noDefC b
 |.region _ ops false=>noDef ops.toList
 |_=>true
theorem SS {self:Self}{L:List Oper}: ∀ {l:List Oper} {s s':St},noDef l=true→evOps C self L l s=some s'→evOpsD C self L l s d=some (s',d):=by
 intro l
 induction l<;>grind[evOps,noDef,evOpsD]
theorem evTop_of : ∀ {code:Code} {n:Nat} {s:St} {ex:Ex} {s':St} {d:rZ},noDefC code=true→ev C n code s=some (ex,s')→∀N m,n≤N→sdep code≤m→evTop C N m code s d=some (ex,s',d):=by
 have leaf:∀ {code:Code} {n:Nat} {s:St} {ex:Ex} {s':St} {d:rZ} {N m:Nat},(∀m,evTop C N (m+1) code s d=match ev C N code s with
   |some (ex,s')=>some (ex,s',d)
   |none=>none)→ev C n code s=some (ex,s')→n≤N→1≤m→evTop C N m code s d=some (ex,s',d):=fun {code n s ex s' d N m} he hr I hm=>by
  obtain⟨k,rfl⟩:∃k,m=k+1:=⟨m-1,by omega⟩
  rw[he,iC I _ _ _ hr]
 intro code
 induction code with
 |seq a b iha ihb =>
  intro n s ex s' d hn hr N m I hm
  simp only[noDefC,bQ] at hn
  simp only[sdep] at hm
  obtain⟨k,rfl⟩:∃k,m=k+1:=⟨m-1,by omega⟩
  cases n with
  |zero=>cases hr
  |succ n =>
   rw[jJ] at hr
   simp only[evStep] at hr
   cases ha:ev C n a s with
   |none=>grind
   |some r =>
    obtain⟨e1,s1⟩:=r
    have h1:=iha (d:=d) hn.1 ha N k (by omega) (by omega)
    simp only[evTop,h1]
    rw[ha] at hr
    cases e1 with
    |normal=>exact ihb hn.2 hr N k (by omega) (by omega)
    |exit i=>grind
    |ret=>grind
 |region id ops draw =>
  intro n s ex s' d hn hr N m I hm
  cases draw with
  |true=>exact leaf (fun m=>rfl) hr I hm
  |false =>
   obtain⟨k,rfl⟩:∃k,m=k+1:=⟨m-1,by have:1≤m:=hm;omega⟩
   cases n with
   |zero=>cases hr
   |succ n =>
    rw[jJ] at hr
    simp only[evStep,aV] at hr
    cases ho:evOps C (ev C n) ops.toList ops.toList s with
    |none=>grind
    |some s1 =>
     rw[ho] at hr
     obtain⟨rfl,rfl⟩:=hr
     have h2:=rY (iC (C:=C) (show n≤N by omega)) _ _ _ ho
     simp only[evTop,SS (d:=d) hn h2]
 |_=>intro n s ex s' d hn hr N m I hm;exact leaf (fun m=>rfl) hr I hm
theorem WPd.of_wp (hn:noDefC code=true)(hw:WP C ax code E h fun ex E' h'=>Q ex E' h' d): WPd C ax code E h d Q:=by
 intro env hE
 obtain⟨N,ex,I,h',E',h1,h2,h3⟩:=hw env hE
 exact⟨N,ex,I,h',E',d,fun M m hM hm=>evTop_of hn h1 M m hM hm,h2,h3⟩
theorem WPd.seq {a b:Code}(hw:WPd C ax a E h d fun ex E' h' d'=>match ex with
  |.normal=>WPd C ax b E' h' d' Q
  |ex=>Q ex E' h' d'): WPd C ax (.seq a b) E h d Q:=by
 intro env hE
 obtain⟨N,ex,I,h',E',d',h1,h2,h3⟩:=hw env hE
 have one:∀M m,N≤M→sdep (.seq a b)≤m+1→evTop C M m a ⟨env,ax,h⟩ d=some (ex,⟨I,ax,h'⟩,d'):=fun M m hM hm=>h1 M m hM (by simp only[sdep] at hm;omega)
 have out:(match ex with|.normal=>False|_=>True)→Q ex E' h' d'→∃N0 ex I h' E' d',(∀N m,N0≤N→sdep (.seq a b)≤m→evTop C N m (.seq a b) ⟨env,ax,h⟩ d=some (ex,⟨I,ax,h'⟩,d'))∧lU I E'∧Q ex E' h' d':=fun hx hq=>by
  refine⟨N,ex,I,h',E',d',fun M m hM hm => ?_,h2,hq⟩
  obtain⟨k,rfl⟩:∃k,m=k+1:=⟨m-1,by simp only[sdep] at hm;omega⟩<;>grind[evTop]
 cases ex with
 |normal =>
  obtain⟨K,tW,Ki,Iq,E2,d2,g1,g2,g3⟩:=h3 I h2
  refine⟨max N K,tW,Ki,Iq,E2,d2,fun M m hM hm => ?_,g2,g3⟩
  obtain⟨k,rfl⟩:∃k,m=k+1:=⟨m-1,by simp only[sdep] at hm;omega⟩<;>grind[sdep,evTop]
 |exit i=>simp_all
 |ret=>simp_all
theorem WPd.defer {ops:Array Oper}{I o2:Oper}{x1 y:Operand}{cl:Go.Call}{v:V}{first cap:List V}(hL:ops.toList=[I,o2])(g1:I.guard=none)(d1:I.dst=some k)(p1:I.op=.move x1)(hk:Nat.blt k ax=true)(hx:bC E x1=some v)
 (g2:o2.guard=none)(d2:o2.dst=none)(p2:o2.op=.defer cl)(hc:cl.callee=.value y)(hy:bC ((k,v)::E) y=some (.fn (.func g) first cap))(ha:lookArgs ((k,v)::E) cl.args.toList=some args)
 (hq:Q .normal ((k,v)::E) h ((g,first++args,cap)::d)): WPd C ax (.region id ops false) E h d Q:=by
 intro env hE
 have Lo:lU (env.set k (some v)) ((k,v)::E):=hE.set _ _
 refine⟨0,.normal,env.set k (some v),h,(k,v)::E,(g,first++args,cap)::d,fun M m _ hm => ?_,Lo,hq⟩
 obtain⟨j,rfl⟩:∃j,m=j+1:=⟨m-1,by have:1≤m:=hm;omega⟩
 have e1:evOpsD C (ev C M) [I,o2] [I,o2] ⟨env,ax,h⟩ d=some (⟨env.set k (some v),ax,h⟩,(g,first++args,cap)::d):=by
  have J7:wantedV [I,o2] env I=true:=by simp[wantedV,g1]
  have he1:evOp C (ev C M) env h I=some (v,h):=by simp only[evOp,p1,cC hE hx];rfl
  have Aq:St.put ⟨env,ax,h⟩ I.dst v h=some ⟨env.set k (some v),ax,h⟩:=by grind[St.put]
  rw[evOpsD]
  grind[evOpsD,oE,cC]
 simp only[evTop,hL,e1]
theorem toldDefer_do {f:FuncId}{R:V→H→Prop}(hf:C.P.funcs[f]?=some fn)(hb:fn.body=some code)(hl:Nat.blt fn.ntmps args.length=false)(hdp:sdep code≤1000)
 (hw:WPd C fn.ntmps code (argE args 0) h [] fun ex E' h' d'=>(match ex with|.exit _=>False|_=>True)∧∃I v,(∃N0,∀N,N0≤N→runDefs C N d' h'=some I)∧resLE C.P E' I fn.results.toList=some v∧R v I):
  ∃v I,(∃N0,∀N,N0≤N→toldDefer C N f args h=some (v,I))∧R v I:=by
 obtain⟨N0,ex,xM,h',E',d',h1,I,hx,h3,v,⟨N1,hr⟩,uy,hR⟩:=hw _ (Nf args)
 refine⟨v,h3,⟨max N0 N1,fun N hN => ?_⟩,hR⟩
 have e1:=h1 N 1000 (by omega) hdp
 have e3:resOf C.P ⟨xM,fn.ntmps,h3⟩ fn.results.toList=some v:=by
  unfold resLE at uy
  cases hm:mapO (resE C.P E' h3) fn.results.toList with
  |none=>grind
  |some vs =>
   have DZ:=Nd (P:=C.P) (s:=⟨xM,fn.ntmps,h3⟩) I hm
   grind[resOf]
 unfold toldDefer
 simp only[hf,hb,hl,aV,e1]
 cases ex with
 |exit i=>grind
 |normal=>grind
 |ret=>grind
theorem MQ {g:FuncId}{v:V}{h2:H}(ht:C.told g=none)(hf:C.P.funcs[g]?=some fn)(hb:fn.body=some code)(hq:quietParts code=none)(hc:iL C g args h v h2): ∃I,∀N,I≤N→runDefs C N [(g,args,[])] h=some h2:=by
 obtain⟨I,h0⟩:=hc
 refine⟨I,fun N hN => ?_⟩
 have e:=rX (iC (C:=C) hN) h0
 grind[runDefs,defCall]
end
def Lw (f:FuncId)(args:List V)(h:H)(r:V×H): Prop:=∃I,∀N,I≤N→toldDefer CB N f args h=some r
theorem Call.defer {told:cE}{f:FuncId}{R:V→H→Prop}(ht:told f=some (qz Tryz.prog f (Lw f)))(hf:Tryz.prog.funcs[f]?=some fn)(hb:fn.body.isSome=true)
 (hd:∃v I,(∃N0,∀N,N0≤N→toldDefer CB N f args h=some (v,I))∧R v I): Call ⟨Tryz.prog,told⟩ f args h R:=by
 obtain⟨v,I,⟨N0,h0⟩,hR⟩:=hd
 obtain⟨r,e1,N1,h1⟩:=wZ (P:=Tryz.prog) (f:=f) (l9:=Lw f) (args:=args) (h:=h) (r:=(v,I)) ⟨N0,h0⟩ (fun c w ux hw=>Kl (C:=CB) Ca Ai (h0 N0 (aI _)) ux hw)
 have:r=(v,I):=by
  have a:=h0 (max N0 N1) (by omega)
  grind
 subst this
 exact⟨v,I,iL.told ht hf hb e1,hR⟩
abbrev Oc := List V→H→V×H→Prop
noncomputable def toldP (l:List (Nat×Oc))(base:Nat→Option (List V→H→Option (V×H)))(f:Nat): Option (List V→H→Option (V×H)) :=
 match l with
 |[]=>base f
 |x::l=>cond (Nat.beq f x.1) (some (qz Tryz.prog x.1 x.2)) (toldP l base f)
theorem Y7 {l:List (Nat×Oc)}(h:∀x∈l,inL KE x.1=true∧x.1≠211∧x.1≠61): W (toldP l tN):=by
 induction l with
 |nil=>exact W.base
 |cons x l I =>
  have I:=I fun y hy=>h y (bA _ hy)
  obtain⟨h1,h2,h3⟩:=h x bB
  refine⟨fun f hf => ?_,?_,?_⟩
  ·have:f≠x.1:=fun e=>by subst e;rw[h1] at hf;cases hf
   simp only[toldP,fH this,aV];exact I.free f hf
  ·simp only[toldP,fH (jH h2),aV];exact I.more
  ·simp only[toldP,fH (jH h3),aV];exact I.sorted
theorem Vu {l : List (Nat × Oc)} (h : ∀ x ∈ l, ∃ fn, Tryz.prog.funcs[x.1]? = some fn ∧ fn.body.isSome = true ∧ (fn.name == "runtime.NumGoroutine") = false) : iK ⟨Tryz.prog, toldP l tN⟩ := by
 induction l with
 | nil => exact Ai
 | cons x l ih =>
  have ih := ih fun y hy => h y (bA _ hy)
  intro f g I
  simp only [toldP] at I
  by_cases h1 : f = x.1
  ·subst h1
   rw [rS rfl, ah] at I
   simp only [aA] at I
   subst I
   exact R7 (h x bB)
  ·rw [fH h1, aV] at I
   exact ih f g I
section
variable {c:Ctx} {σ:H} {w:World}
set_option maxRecDepth 100000 in
theorem SU {x y:Value}{a:List Nat}(I:∀z∈a,z<256)(hb:∀z∈b,z<256)
 (hx:(Extern.Bytes.bytesOf x).run Tryz.prog w=.ok ⟨(a.map UInt8.ofNat).toArray⟩ w)(hy:(Extern.Bytes.bytesOf y).run Tryz.prog w=.ok ⟨(b.map UInt8.ofNat).toArray⟩ w):
  Calls Tryz.prog 116 #[x,y] w fun e w'=>e=.returned (.int .i64 (cmpN a b))∧w'=w:=by
 go_enter Lk,Tryz.ntmps116
 go_wp2
 rw[run_callFunc_extern Tryz.func184 (by kernel_rfl) (by kernel_rfl) (by kernel_rfl) (e:=Extern.BytealgCompare.compare) (by kernel_rfl),Y2 I hb hx hy]
 simp only[Result.andThen]
 rw[Oper.upon_value]
 go_wp2
 go_ret
 exact⟨rfl,rfl⟩
theorem Gq {x:V}{l:List Nat}(h:Rel c σ w)(hw:wf c x)(I:View σ x l): (Extern.Bytes.bytesOf (conc c x)).run Tryz.prog w=.ok ⟨(l.map UInt8.ofNat).toArray⟩ w:=by
 have hl:=I.1
 have e:bytesOf (ofBytes l)=some l:=Gf hl
 rcases I.2 with⟨rfl|⟨a,rfl⟩,rfl⟩|⟨id,off,cap,n,cs,st,rfl,_⟩
 ·simp only[conc];rfl
 ·simp only[conc];rfl
 ·exact(MP (P:=Tryz.prog) h hw (by simp only[byteList,I.rdN.2,e])).2
end
def LA : Oc:=fun args h r=>∃x y a b,args=[x,y]∧View h x a∧View h y b∧r=(.int .i64 (cmpN a b),h)
structure WB (told:cE): Prop where
 w:W told
 cmp:told 116=some (qz Tryz.prog 116 LA)
theorem MR : ∀ {a b:List Nat},ofBytes a=ofBytes b→a=b:=by
 intro a
 induction a with
 |nil=>intro b h;cases b with
  |nil=>rfl
  |cons y b=>cases h
 |cons x a I =>
  intro b h
  cases b with
  |nil=>cases h
  |cons y b =>
   simp only[ofBytes,ik,List.cons.injEq,V.int.injEq,true_and] at h
   rw[I h.2,Int.ofNat.inj h.1]
theorem View.uniq {x:V}{a:List Nat}(h1:View h x a)(I:View h x b): a=b:=by
 rcases h1.2 with⟨rfl|⟨z,rfl⟩,rfl⟩|⟨id,off,cap,n,cs,st,rfl,_⟩
 ·rcases I.2 with⟨_,rfl⟩|⟨id,off,cap,n,cs,st,e,_⟩
  ·rfl
  ·cases e
 ·rcases I.2 with⟨_,rfl⟩|⟨id,off,cap,n,cs,st,e,_⟩
  ·rfl
  ·cases e
 ·have e1:=h1.rdN
  have e2:=I.rdN
  rw[e1.2] at e2
  exact MR (bW e2.2)
section
variable {told:cE} {a k:List Nat}
theorem Gr (hT:WB told){xv:V}(hx:View h xv a)(hy:View h y c): Call ⟨Tryz.prog,told⟩ 116 [xv,y] h fun r h'=>r=.int .i64 (cmpN a c)∧h'=h:=by
 obtain⟨r,h3,x2,y2,a2,c2,e1,v1,v2,rfl⟩:=wZ (P:=Tryz.prog) (f:=116) (l9:=LA) (args:=[xv,y]) (h:=h) (r:=(.int .i64 (cmpN a c),h)) ⟨xv,y,a,c,rfl,hx,hy,rfl⟩ fun cx w I hw=>by
  unfold ki
  refine Calls.mono (SU hx.1 hy.1 (Gq I (hw xv (by simp)) hx) (Gq I (hw y (by simp)) hy)) ?_
  rintro e w' ⟨rfl,rfl⟩
  exact⟨cx,by simp only[conc],by simp only[wf],I,c_.refl cx w'⟩
 injection e1 with e1 e2
 injection e2 with e2 _
 subst e1 e2
 rw[hx.uniq v1,hy.uniq v2]
 exact⟨_,_,iL.told hT.cmp Lk rfl h3,rfl,rfl⟩
theorem jc.get {e d:En}(h:jc lo hi es)(h1:es[i]?=some e)(h2:es[j]?=some d)(I:i<j): e.1<d.1:=by
 have:=List.pairwise_iff_getElem.1 h.kK i j (List.getElem?_eq_some_iff.1 h1).1 (List.getElem?_eq_some_iff.1 h2).1 I
 rwa [(List.getElem?_eq_some_iff.1 h1).2,(List.getElem?_eq_some_iff.1 h2).2] at this
theorem vL {e:En}(h:jc lo hi es)(he:es[i]?=some e): (es.map ey)[i]?=some (ey e)∧jQ 0 (ey e)∧(ey e).length≤225:=by
 obtain⟨s1,s2,I⟩:=h.sz e (aM he)
 refine⟨by rw[jW,he];rfl,?_,?_⟩
 ·show 1≤(ey e).length∧1+(ey e).getD 0 0≤(ey e).length
  exact⟨by simp[ey],by simp[ey];omega⟩
 ·simp[ey];omega
noncomputable def lsL : Code:=eu [1,1,0,0,0] ((Tryz.f46.body).getD .skip)
theorem Qa (hT:WB told)(hX:cf X (cy kv k))(hN:jc lo hi es)(hlen:es.length≤512): ∀(j a z:Nat) (h:H) (E:List (Nat×V)) (Q:Ex→List (Nat×V)→H→Prop),z-a≤j→a≤z→z≤es.length →
  (∀i e,es[i]?=some e→i<a→e.1<k)→(∀i e,es[i]?=some e→z≤i→k≤e.1)→Sat h (a_ x n 0 b (es.map ey)::X::S)→Has E [(0,.ptr x 0),(1,kv),(6,.int .i64 (a:Int)),(7,.int .i64 (z:Int))] →
  (∀E' h' i,A6 es k i→Has E' [(0,.ptr x 0),(1,kv),(6,.int .i64 (i:Int))]→Sat h' (a_ x n 0 b (es.map ey)::X::S)→Q (.exit 0) E' h')→WP ⟨Tryz.prog,told⟩ 45 (.loop lsL) E h Q:=by
 have hW:=hT.w
 intro j
 induction j with
 |zero =>
  intro a z h E Q hj W5 hz h1 h2 s hE hq
  have:a=z:=by omega
  subst this
  refine WP.loop (WP.has hE (zK 5 rfl (zC rfl aO (by simp) ?_)))
  exact zk 2 rfl (WP.exit (hq _ _ a ⟨hz,h1,h2⟩ ⟨rfl,rfl,rfl,aa⟩ s))
 |succ j ih =>
  intro a z h E Q hj W5 hz h1 h2 s hE hq
  by_cases Vv:a=z
  ·subst Vv
   refine WP.loop (WP.has hE (zK 5 rfl (zC rfl aO (by simp) ?_)))
   exact zk 2 rfl (WP.exit (hq _ _ a ⟨hz,h1,h2⟩ ⟨rfl,rfl,rfl,aa⟩ s))
  ·obtain⟨m,hm⟩:∃m,m=(a+z)/2:=⟨_,rfl⟩
   obtain⟨e,he⟩:∃e,es[m]?=some e:=⟨_,aG (by omega)⟩
   obtain⟨c1,c2,c3⟩:=vL hN he
   refine WP.loop (WP.has hE (zK 5 rfl (zB rfl aO (by simp;omega) ?_)))
   refine zk 3 rfl (WP.block (zK 4 rfl (zo rfl (ak (r:=.int .i64 ((a+z:Nat):Int)) rfl rfl (by rw[show((a+z:Nat):Int)=(a:Int)+(z:Int) by omega];exact aQ (aq (by omega) (by omega)))) ?_)))
   refine zo rfl (ak (r:=.int .i64 (m:Int)) rfl rfl (by rw[hm];exact DD (b:=2) (by decide) (by omega))) ?_
   refine zk 6 rfl (zc rfl (y8 hW c1 c2 (by decide) c3 s) ?_)
   intro kv2 h s
   rw[DC] at s
   refine zm rfl (zc rfl (Gr hT (s.aC (k:=0) rfl (bj _ _)) (s.aC (k:=2) rfl hX)) ?_)
   rintro r h' ⟨rfl,rfl⟩
   by_cases I:e.1<k
   ·skip
    refine zB rfl aO (decide_eq_true ((Ay _ _).1.2 I)) (zk 4 rfl (zb rfl (by exact aQ (aq (by omega) (by omega))) ?_))
    refine za rfl (zv ?_)
    refine ih (m+1) z _ _ Q (by omega) (by omega) hz (fun i d hd hi => ?_) h2 s.drop ⟨rfl,rfl,rfl,rfl,aa⟩ hq
    by_cases q:i=m
    ·subst q
     rw[he] at hd
     obtain rfl:=bW hd
     exact I
    ·have:=hN.get hd he (by omega)
     grind
   ·skip
    refine zh rfl (ak rfl rfl aO) (decide_eq_false (fun q=>I ((Ay _ _).1.1 q))) (zv (zj rfl (zr rfl (zk 2 rfl (zv ?_)))))
    refine ih a m _ _ Q (by omega) (by omega) (by omega) h1 (fun i d hd hi => ?_) s.drop ⟨rfl,rfl,rfl,rfl,aa⟩ hq
    by_cases q:i=m
    ·subst q
     rw[he] at hd
     obtain rfl:=bW hd
     exact List.not_lt.1 I
    ·have:=hN.get he hd (by omega)
     grind
theorem wD (hT:WB told)(hX:cf X (cy kv k))(hN:jc lo hi es)(hlen:es.length≤512)(s:Sat h (a_ x n 0 b (es.map ey)::X::S)):
  Call ⟨Tryz.prog,told⟩ 46 [.ptr x 0,kv] h fun v h'=>∃i:Nat,v=.aT [.int .i64 (i:Int),.bool (sameE es k i)]∧A6 es k i∧Sat h' (a_ x n 0 b (es.map ey)::X::S):=by
 have hW:=hT.w
 have s0:=s
 obtain⟨bv,cv,us,s⟩:=bh.1 s
 refine Call.of_wp (hW.free _ rfl) Tryz.func46 rfl rfl (zK 6 rfl ?_)
 have z0:=s
 refine WP.drawn [af,af,af,af,af,af,af] rfl (by kernel_rfl) (by kernel_rfl) ?_
 refine zM rfl (zN rfl (zF rfl (cN _ _) (zL rfl (s.ld (k:=0) rfl gz rfl) (zO rfl (aD rfl rfl rfl (iJ aP s)) ?_))))
 rw[bX]
 refine zA rfl (zA rfl ?_)
 refine aB.nil ⟨⟨aa,aa,aa,aa,aa,aa,aa,aa⟩,?_⟩
 refine zw (WP.block ?_)
 refine Qa hT hX hN hlen es.length 0 es.length _ _ _ (by omega) (gu _) (aI _) (fun i e _ h=>by omega) (fun i e h1 h2=>by have:=(List.getElem?_eq_some_iff.1 h1).1;omega) s0 ⟨rfl,rfl,rfl,rfl,aa⟩ fun E' h' i hL eN s' => ?_
 have s:=s'
 have ae4:=hL.le
 refine WP.has eN ?_
 have s0:=s
 obtain⟨bv,cv,us,s⟩:=bh.1 s
 refine zK 6 rfl (zY s 0 cN gz rfl (zo rfl (aD rfl rfl rfl (iJ aP s)) ?_))
 rw[bX]
 by_cases hi:i<es.length
 ·obtain⟨e,he⟩:∃e,es[i]?=some e:=⟨_,aG hi⟩
  obtain⟨c1,c2,c3⟩:=vL hN he
  have I:sameE es k i=decide (e.1=k):=by unfold sameE;rw[he]
  refine zB rfl aO (by simp;omega) ?_
  refine zk 3 rfl (zc rfl (y8 hW c1 c2 (by decide) c3 s0) ?_)
  intro kv2 h s
  rw[DC] at s
  refine zm rfl (zc rfl (I5 hW (s.aC (k:=0) rfl (bj _ _)) (s.aC (k:=2) rfl hX)) ?_)
  rintro r h' ⟨rfl,rfl⟩
  exact zk 4 rfl (WP.ret ⟨aa,_,rfl,i,by rw[I],hL,s.drop⟩)
 ·have I:sameE es k i=false:=by unfold sameE;rw[nm (by omega)]
  refine zC rfl aO (by simp;omega) ?_
  exact zk 10 rfl (WP.ret ⟨aa,_,rfl,i,by rw[I],hL,s0⟩)
noncomputable def wyL : Code:=eu [1,1,0,0,0] ((Tryz.f76.body).getD .skip)
theorem Vw (hT:WB told)(hX:cf X (cy kv k))(hS:Sep lo hi ks)(hlen:ks.length≤512)(uf:1≤l)(iA:l≤64): ∀(j a z:Nat) (h:H) (E:List (Nat×V)) (Q:Ex→List (Nat×V)→H→Prop),z-a≤j→a≤z→z≤ks.length→1≤a →
  (∀i m,ks[i]?=some m→1≤i→i<a→m.key≤k)→(∀i m,ks[i]?=some m→z≤i→k<m.key)→Sat h (a_ x n l b (bP ks)::X::S)→Has E [(0,.ptr x 0),(1,kv),(5,.int .i64 (a:Int)),(6,.int .i64 (z:Int))] →
  (∀E' h' i,Way ks k i→Has E' [(5,.int .i64 ((i+1:Nat):Int))]→Sat h' (a_ x n l b (bP ks)::X::S)→Q (.exit 0) E' h')→WP ⟨Tryz.prog,told⟩ 31 (.loop wyL) E h Q:=by
 have hW:=hT.w
 have fin:∀(a:Nat),1≤a→a≤ks.length→(∀i m,ks[i]?=some m→1≤i→i<a→m.key≤k)→(∀i m,ks[i]?=some m→a≤i→k<m.key)→Way ks k (a-1):=fun a q1 q2 q3 q4 =>
  ⟨by omega,fun j m hm a1 a2=>q3 j m hm a1 (by omega),fun j m hm a1=>q4 j m hm (by omega)⟩
 intro j
 induction j with
 |zero =>
  intro a z h E Q hj W5 hz ha h1 h2 s hE hq
  have:a=z:=by omega
  subst this
  refine WP.loop (WP.has hE (zK 5 rfl (zC rfl aO (by simp) ?_)))
  exact zk 2 rfl (WP.exit (hq _ _ (a-1) (fin a ha hz h1 h2) ⟨by rw[show a-1+1=a by omega];rfl,aa⟩ s))
 |succ j ih =>
  intro a z h E Q hj W5 hz ha h1 h2 s hE hq
  by_cases Vv:a=z
  ·subst Vv
   refine WP.loop (WP.has hE (zK 5 rfl (zC rfl aO (by simp) ?_)))
   exact zk 2 rfl (WP.exit (hq _ _ (a-1) (fin a ha hz h1 h2) ⟨by rw[show a-1+1=a by omega];rfl,aa⟩ s))
  ·obtain⟨m,hm⟩:∃m,m=(a+z)/2:=⟨_,rfl⟩
   obtain⟨e,he⟩:∃e,ks[m]?=some e:=⟨_,aG (by omega)⟩
   have c1:=jB he
   have h4:=cJ 4 e.pg
   have fJ:=hS.len e (aM he)
   have c3:(eX e.pg e.key).length≤225:=by rw[eX,aX,h4];omega
   have c2:jQ l (eX e.pg e.key):=by rw[jQ,ai (by omega),eX,aX,h4];omega
   have oV:gp l (eX e.pg e.key)=e.key:=by
    obtain⟨l',rfl⟩:∃l',l=l'+1:=⟨l-1,by omega⟩
    exact HT
   refine WP.loop (WP.has hE (zK 5 rfl (zB rfl aO (by simp;omega) ?_)))
   refine zk 3 rfl (WP.block (zK 4 rfl (zo rfl (ak (r:=.int .i64 ((a+z:Nat):Int)) rfl rfl (by rw[show((a+z:Nat):Int)=(a:Int)+(z:Int) by omega];exact aQ (aq (by omega) (by omega)))) ?_)))
   refine zo rfl (ak (r:=.int .i64 (m:Int)) rfl rfl (by rw[hm];exact DD (b:=2) (by decide) (by omega))) ?_
   refine zk 6 rfl (zc rfl (y8 hW c1 c2 iA c3 s) ?_)
   intro kv2 h s
   rw[oV] at s
   refine zm rfl (zc rfl (Gr hT (s.aC (k:=0) rfl (bj _ _)) (s.aC (k:=2) rfl hX)) ?_)
   rintro r h' ⟨rfl,rfl⟩
   by_cases hle:e.key≤k
   ·skip
    refine zB rfl r9 (decide_eq_true ((Ay _ _).2.2 hle)) (zk 4 rfl (zb rfl (by exact aQ (aq (by omega) (by omega))) ?_))
    refine za rfl (zv ?_)
    refine ih (m+1) z _ _ Q (by omega) (by omega) hz (by omega) (fun i d I a1 a2 => ?_) h2 s.drop ⟨rfl,rfl,rfl,rfl,aa⟩ hq
    by_cases q:i=m
    ·subst q
     rw[he] at I
     obtain rfl:=bW I
     exact hle
    ·have:=hS.kK i m d e I he a1 (by omega)
     grind
   ·skip
    refine zh rfl (ak rfl rfl r9) (decide_eq_false (fun q=>hle ((Ay _ _).2.1 q))) (zv (zj rfl (zr rfl (zk 2 rfl (zv ?_)))))
    refine ih a m _ _ Q (by omega) (by omega) (by omega) ha h1 (fun i d I a1 => ?_) s.drop ⟨rfl,rfl,rfl,rfl,aa⟩ hq
    by_cases q:i=m
    ·subst q
     rw[he] at I
     obtain rfl:=bW I
     exact List.not_le.1 hle
    ·have:=hS.kK m i e d he I (by omega) (by omega)
     grind
theorem SV (hT:WB told)(hX:cf X (cy kv k))(hS:Sep lo hi ks)(hlen:ks.length≤512)(uf:1≤l)(iA:l≤64)(s:Sat h (a_ x n l b (bP ks)::X::S)):
  Call ⟨Tryz.prog,told⟩ 76 [.ptr x 0,kv] h fun v h'=>∃i:Nat,v=.int .i64 (i:Int)∧Way ks k i∧Sat h' (a_ x n l b (bP ks)::X::S):=by
 have hW:=hT.w
 have I:1≤ks.length:=by
  rcases pM ks.length with q|q
  ·exact absurd (ic q) hS.ne
  ·exact q
 have s0:=s
 obtain⟨bv,cv,us,s⟩:=bh.1 s
 refine Call.of_wp (hW.free _ rfl) Tryz.func76 rfl rfl (zK 5 rfl ?_)
 have z0:=s
 refine WP.drawn [af,af,af,af,af,af,af] rfl (by kernel_rfl) (by kernel_rfl) ?_
 refine zM rfl (zN rfl (zF rfl (cN _ _) (zL rfl (s.ld (k:=0) rfl gz rfl) (zO rfl (aD rfl rfl rfl (iJ aP s)) ?_))))
 rw[eC]
 refine zA rfl (zA rfl ?_)
 refine aB.nil ⟨⟨aa,aa,aa,aa,aa,aa,aa,aa⟩,?_⟩
 refine zw (WP.block ?_)
 refine Vw hT hX hS hlen uf iA ks.length 1 ks.length _ _ _ (by omega) I (aI _) (aI _) (fun i e _ I h2=>by omega) (fun i e I h2=>by have:=(List.getElem?_eq_some_iff.1 I).1;omega) s0 ⟨rfl,rfl,rfl,rfl,aa⟩ fun E' h' i hL eN s' => ?_
 have s:=s'
 have cq:=hL.lt
 refine WP.has eN (zK 3 rfl (zo rfl (ak (r:=.int .i64 (i:Int)) rfl rfl (by rw[show(i:Int)=((i+1:Nat):Int)-1 by omega];exact ew (aq (by omega) (by omega)))) ?_))
 exact zk 2 rfl (WP.ret ⟨aa,_,rfl,i,rfl,hL,s⟩)
end
theorem sJ (b:Nat)(e:TypeId)(fz:Nat×Nat): ∀(vs:List Value) (o:Nat) (w:World) (C:Array Value),w.heap[b]?=some (.cells C e fz)→o+vs.length≤C.size →
  ∃C',w.setCells b o vs=World.setRow w b C' e fz∧C'.size=C.size∧∀j,C'[j]?=if o≤j∧j<o+vs.length then vs[j-o]? else C[j]?:=by
 intro vs
 induction vs with
 |nil =>
  intro o w C I _
  have:World.setRow w b C e fz=w:=by
   unfold World.setRow
   congr 1
   grind
  exact⟨C,this.symm,rfl,fun j=>by grind⟩
 |cons v vs ih =>
  intro o w C I hl
  have cq:b<w.heap.size:=(Array.getElem?_eq_some_iff.1 I).1
  simp only[bq] at hl
  obtain⟨C',h1,h2,h3⟩:=ih (o+1) (World.setRow w b (C.setIfInBounds o v) e fz) (C.setIfInBounds o v) (by rw[j8 cq];simp) (by simp;omega)
  refine⟨C',?_,by rw[h2];simp,fun j => ?_⟩
  ·rw[World.setCells,DS I,h1,setRow_setRow]
  ·rw[h3]
   by_cases hj:j=o
   ·subst hj
    rw[ai (by omega),ay (by simp),gV,GM,ay rfl,ay (by omega)]
    rfl
   ·grind
theorem Cn (w:World)(C D:Array Value)(e:TypeId)(fz DQ:Nat×Nat): World.setRow (w.alloc (.cells C e fz)) w.heap.size D e DQ=w.alloc (.cells D e DQ):=by
 unfold World.setRow World.alloc
 congr 1
 apply Array.ext'
 simp
set_option maxHeartbeats 1000000 in
theorem Y8 {c:Ctx}{w:World}{y:Nat}{cs:List V}(I:Rel c h w)(hg:h.tr.get x=some (.cells n cs false))(hy:h.tr.get y=some (.cells 1 [u] false))(Xb:y≠x)(hi:i<n)(hn:n≤4096)
 (J7:wf c (.sl x 0 n (.rest 1 0))): ki Tryz.prog 52 [.sl x 0 n (.rest 1 0),.int .i64 i,.sl y 0 1 (.exact 1)] c w (.sl h.next 0 (n+1) (.rest 1 0)) ((h.put x none).new (.cells (n+1) (cW i u cs) false)):=by
 obtain⟨hl,E7,C,e,fz,hb,hle,hC,tU⟩:=I.obj x _ hg
 obtain⟨_,hwu,D,e2,fz2,qa,ae5,hD,Vx⟩:=I.obj y _ hy
 have tU:fz=(0,0):=tU
 have Vx:fz2=(0,0):=Vx
 subst tU Vx
 have hX:=I.G7 hg (by simp)
 have SH:(c.ρ y).1≠(c.ρ x).1:=fun he=>Xb (I.Eg hy hg he hX)
 have hxN:x<c.N:=I.live x _ hg
 have ZP:rowSize w (c.ρ x).1=C.size:=by unfold rowSize;rw[hb]
 have QJ:c.room x 0 1=C.size-(c.ρ x).2:=by
  simp only[Ctx.room,I.zz x hxN,ZP,eS,CZ]
 have vR:c.room x 0 1≠0:=by omega
 have oh:n≤c.room x 0 1:=by
  simp only[wf] at J7
  exact J7.2.2
 have ea:(#[.slice (some ⟨(c.ρ x).1,(c.ρ x).2,none⟩) n (c.room x 0 1),.int .i64 i,.slice (some ⟨(c.ρ y).1,(c.ρ y).2,none⟩) 1 1]:Array Value)=([V.sl x 0 n (.rest 1 0),.int .i64 i,.sl y 0 1 (.exact 1)].map (conc c)).toArray:=by
  simp[conc]
 have gy:(cs.map (conc c)).length=n:=by simp[hl]
 have xz:∀j v,(cs.map (conc c))[j]?=some v→w.cell? ⟨(c.ρ x).1,(c.ρ x).2+j,none⟩=some v:=fun j v hj=>by
  rw[jW] at hj
  obtain⟨a,h1,rfl⟩:=Option.map_eq_some_iff.1 hj
  simp[World.cell?,hb,hC j a h1]
 have hvi:∀j v,([conc c u])[j]?=some v→w.cell? ⟨(c.ρ y).1,(c.ρ y).2+j,none⟩=some v:=fun j v hj=>by
  cases j with
  |succ j=>simp at hj
  |zero =>
   simp only[jE,aA] at hj
   subst hj
   have:=hD 0 u rfl
   simp only[eS] at this ⊢
   simp[World.cell?,qa,this]
 have N8:∀v∈cs.map (conc c),v.oneCell'=true:=fun v hv=>by
  obtain⟨a,h1,rfl⟩:=List.mem_map.1 hv
  exact tG (E7 a h1).2
 have N9:∀v∈[conc c u],v.oneCell'=true:=fun v hv=>by
  simp only[List.mem_singleton] at hv
  subst hv
  exact tG (hwu u (by simp)).2
 have aa7:∀v∈cW i u cs,wf c v∧storable v=true:=fun v hv=>by
  simp only[cW,nB,gj] at hv
  rcases hv with h1|rfl|h1
  ·exact E7 v (iV h1)
  ·exact hwu v (by simp)
  ·exact E7 v (jh h1)
 have m8:n+1=(cW i u cs).length:=by rw[kS (by omega)];omega
 have AL:∀a:Addr,a.block=(c.ρ x).1∨a.block=(c.ρ y).1→w.frozen? a=false:=fun a ha=>by
  unfold World.frozen?
  rcases ha with ha|ha<;>rw[ha]<;>simp[hb,qa]
 have xy:(c.ρ x).1<w.heap.size:=(Array.getElem?_eq_some_iff.1 hb).1
 unfold ki
 rw[←ea]
 by_cases nh:n+1≤c.room x 0 1
 ·refine Calls.mono (SG (c.ρ x).1 (c.ρ x).2 n (c.room x 0 1) i (c.ρ y).1 (c.ρ y).2 1 1 (cs.map (conc c)) [conc c u] w hi (by omega) nh (by omega) SH gy rfl xz
   (fun j hj=>by simp[World.cell?,hb];omega) (fun j _=>AL _ (.inl rfl)) hvi N8 N9 e2 e D.size C.size (by simp[World.shape?,qa]) (by simp[World.shape?,hb]) (by omega) (AL _ (.inr rfl)) (AL _ (.inr rfl))) ?_
  rintro r w' ⟨rfl,rfl⟩
  obtain⟨C1,a1,a2,a3⟩:=sJ (c.ρ x).1 e (0,0) ((cs.map (conc c)).drop i) ((c.ρ x).2+(i+1)) w.drew C hb (by simp;omega)
  obtain⟨C2,b1,b2,b3⟩:=sJ (c.ρ x).1 e (0,0) [conc c u] ((c.ρ x).2+i) (World.setRow w.drew (c.ρ x).1 C1 e (0,0)) C1 (by rw[j8 (by exact xy)];simp) (by simp;omega)
  rw[a1,b1,setRow_setRow]
  have ha:=I.drew.ZL (off:=0) (m:=n+1) (cs':=cW i u cs) (C':=C2) (e:=e) hg hb (by omega) m8 (by omega) aa7 (by omega) (fun j v hj=>by
   rw[mX (by omega)] at hj
   rw[eS,b3,a3]
   by_cases h1:j<i
   ·rw[ay h1] at hj
    rw[ai (by simp;omega),ai (by omega)]
    exact hC j v hj
   ·rw[ai h1] at hj
    by_cases h2:j=i
    ·rw[ay h2] at hj
     cases hj
     subst h2
     rw[ay (by simp),gV]
     rfl
    ·rw[ai h2] at hj
     have IL:j-1<cs.length:=(List.getElem?_eq_some_iff.1 hj).1
     rw[ai (by simp;omega),ay (by simp;omega),fb,jW,show i+((c.ρ x).2+j-((c.ρ x).2+(i+1)))=j-1 by omega,hj]
     rfl)
  have aa8:(c.at x 0).room h.next 0 1=c.room x 0 1:=by simp[Ctx.room,Ctx.at,I.next]
  refine⟨_,?_,?_,ha.1,(c_.drew c w).trans ha.2⟩
  ·simp only[conc,aa8,vR,gK]
   simp[Ctx.at,I.next]
  ·simp only[wf,aa8]
   exact⟨by simp[Ctx.at,I.next],by omega,nh⟩
 ·refine Calls.mono (Vo (c.ρ x).1 (c.ρ x).2 n (c.room x 0 1) i (c.ρ y).1 (c.ρ y).2 1 1 (cs.map (conc c)) [conc c u] w hi (by omega) oh (by omega) (by omega) gy rfl xz hvi N8 N9) ?_
  rintro r w' ⟨G,Xv,hG,rfl,hRS,rfl,hR⟩
  obtain⟨C1,a1,a2,a3⟩:=sJ w.heap.size 29 (0,0) [conc c u] i (w.drew.alloc (.cells Xv 29)) Xv ((iz w.drew _ w.heap.size).trans (if_pos rfl)) (by simp;omega)
  have e1:World.setRow (w.drew.alloc (.cells Xv 29)) w.heap.size C1 29 (0,0)=w.drew.alloc (.cells C1 29):=Cn w.drew Xv C1 _ _ _
  have e2:(w.drew.alloc (.cells C1 29)).drew=w.drew.drew.alloc (.cells C1 29):=rfl
  rw[a1,e1,e2]
  obtain⟨C2,b1,b2,b3⟩:=sJ w.heap.size 29 (0,0) ((cs.map (conc c)).drop i) (i+1) (w.drew.drew.alloc (.cells C1 29)) C1 ((iz w.drew.drew _ w.heap.size).trans (if_pos rfl)) (by simp;omega)
  have e3:World.setRow (w.drew.drew.alloc (.cells C1 29)) w.heap.size C2 29 (0,0)=w.drew.drew.alloc (.cells C2 29):=Cn w.drew.drew C1 C2 _ _ _
  rw[b1,e3]
  have oX:((cW i u cs).map (conc c)++C2.toList.drop (n+1)).toArray=C2:=by
   apply Array.ext'
   rw[List.toList_toArray]
   apply ny
   intro j
   have F_:((cW i u cs).map (conc c)).length=n+1:=by rw[bX,←m8]
   by_cases hj:j<n+1
   ·rw[sU (by omega),jW,mX (by omega),show C2.toList[j]?=C2[j]? from nk,b3,a3]
    by_cases h1:j<i
    ·rw[ay h1,ai (by omega),ai (by omega),hR j (conc c cs[j]) (by rw[jW,aG (by omega)];rfl) h1,aG (by omega)]
     rfl
    ·rw[ai h1]
     by_cases h2:j=i
     ·subst h2
      rw[ay rfl,ai (by omega),ay (by simp),gV]
      rfl
     ·rw[ai h2,ay (by simp;omega),fb,jW,show i+(j-(i+1))=j-1 by omega]
   ·rw[ie (by omega),fb,F_,show n+1+(j-(n+1))=j by omega]
  obtain⟨g1,g2⟩:=(I.drew.drew.kill x).newRow aa7 29 (C2.toList.drop (n+1))
  have fJ:(cW i u cs).length+(C2.toList.drop (n+1)).length=G:=by simp[←m8];omega
  rw[oX,fJ,←m8] at g1
  rw[oX,fJ] at g2
  have SW:(c.grow w.drew.drew.heap.size 0 G).room h.next 0 1=G:=by
   simp only[Ctx.room,I.next,Ctx.grow,World.size_drew,dw,iW,eS,CZ]
  have hG0:G≠0:=by omega
  refine⟨_,?_,?_,g1,(c_.drew c w).trans ((c_.drew c w.drew).trans g2)⟩
  ·simp only[conc,SW,ai hG0]
   simp[I.next,Ctx.grow]
  ·simp only[wf,SW]
   exact⟨by rw[I.next,mD];omega,by omega,hG⟩
def Gs : Oc:=fun args h r=>(∃x y n i cs u,args=[.sl x 0 n (.rest 1 0),.int .i64 (i:Nat),.sl y 0 1 (.exact 1)]∧h.tr.get x=some (.cells n cs false)∧h.tr.get y=some (.cells 1 [u] false)∧i<n ∧
  r=(.sl h.next 0 (n+1) (.rest 1 0),(h.put x none).new (.cells (n+1) (cW i u cs) false))) ∨
 iL CB 52 args h r.1 r.2∧((∃x n t y,args=[.sl x 0 n t,.int .i64 (n:Nat),y])∨∃y,args=[.aR,.int .i64 0,y])
theorem acw {k:IntKind}{a b:Int}: builtinV P h .max ts [.int k a,.int k b]=some (.int k (max a b),h):=by
 simp only[builtinV,foldV,maxV,ff,ah,gJ]
 congr 2
 rw[Int.max_def]
 by_cases h:b>a
 ·rw[dB h,ah,ay (by omega)]
 ·rw[er h,aV]
  split
  ·have:a=b:=by omega
   rw[this]
  ·rfl
theorem Qb {n l:Int}(hb:View h bv b)(hc:qI (T.get h.tr) 1 cv us): buildV Tryz.prog 101 [(0,.int .i64 n),(1,.int .i64 l),(2,bv),(3,cv)]=some (.agg [.int .i64 n,.int .i64 l,bv,cv]):=by
 rcases hb.2 with⟨rfl|⟨a,rfl⟩,_⟩|⟨id,off,cap,N,cs,st,rfl,_⟩<;>rcases hc.2 with⟨rfl,_⟩|⟨sk,n2,I,N2,rest,rfl,_⟩<;>(rw[Pg];rfl)
theorem bH.reads (h:bH b k link extra cs): b.length=512∧cF b=true∧b.getD 12 0=k∧dI b 22 4=extra:=⟨h.len,h.good,h.kind,h.extra⟩
theorem j5 : cB cs=tot cs+4*cs.length:=rfl
theorem SX (I:∀c∈cs,c.length≤225)(hl:cs.length≤512): cB cs≤512*229:=by
 have:=Ck (cs:=cs) (M:=229) fun c h=>by have:=I c h;omega
 have:=pK 229 hl
 omega
section
variable {told:cE} {p least:Nat} {v:V}
theorem xB (hX:wB X 1 cv us)(hc:cs[i]?=some c)(hu:P.underlying t=some (.slice e))(he:bp P e=some 1)(ha:isAggT P e=some false)(s:Sat h (X::cX us cs::S)):
  ∃u id off,indexAddrV P t cv (.int .i64 (i:Int))=some (.ptr id off)∧loadV P h e (.ptr id off)=some u∧us[i]?=some u∧Sat h (X::cX us cs::oP u c::S):=by
 obtain⟨u,I,s1⟩:=SD (s.ae [1]) hc
 have hl:=jZ (s.ae [1])
 have hi:=(List.getElem?_eq_some_iff.1 hc).1
 obtain⟨id,off,e1,e2⟩:=aaW (P:=P) (t:=t) (e:=e) (i:=i) (s.kZ (j:=0) rfl hX) (by omega) (by decide) hu he
 refine⟨u,id,off,e1,?_,I,?_⟩
 ·have:=e2 0 u e (by rw[dV,ig,ay (by decide),fb,eS];exact I) ha
  rwa [eS] at this
 ·have s1:=s1.ae [2,1,0]
  exact s1
theorem zu (I:wB X 1 cv us)(hu:P.underlying t=some (.slice e))(s:Sat h (X::cX us cs::S)): lenV P h t cv=some (.int .i64 (cs.length:Int)) :=
 SF (s.kZ (j:=0) rfl I) (by rw[jZ (s.ae [1]),dV]) (by decide) hu
theorem rP (hT:W told)(s:Sat h (X::S))(I:cf X (cy v b))(hl:b.length<1073741824):
  Call ⟨Tryz.prog,told⟩ 49 [v] h fun r h'=>Sat h' (aU r b::X::S):=by
 have hv:=s.aC (k:=0) rfl I
 refine Call.of_wp (hT.free _ rfl) Tryz.func49 rfl rfl (zK 7 rfl (zo rfl (aD rfl rfl rfl (aY aK (s.aC (k:=0) rfl I))) (au.any rfl rfl rfl (OpR.uc rfl s rfl rfl rfl rfl (by omega)) ?_)))
 intro u h s
 refine zm rfl (au.any rfl rfl rfl (OpR.qh rfl s I rfl rfl rfl rfl (by simp;omega)) ?_)
 intro u2 h s
 rw[dG] at s
 exact zk 2 rfl (WP.ret ⟨aa,_,rfl,s⟩)
theorem wE (hT:W told)(s:Sat h (X::S))(I:cf X (cy v b)): Call ⟨Tryz.prog,told⟩ 44 [v] h fun r h'=>r=.bool (decide (1≤b.length∧b.length≤96))∧h'=h:=by
 have hv:=s.aC (k:=0) rfl I
 refine Call.of_wp (hT.free _ rfl) Tryz.func44 rfl rfl (zK 7 rfl (zo rfl (aD rfl rfl rfl (aY aK (s.aC (k:=0) rfl I))) ?_))
 by_cases h1:1≤b.length
 ·skip
  refine zB rfl mV (by simp;omega) ?_
  refine zk 2 rfl (zo rfl (aD rfl rfl rfl (aY aK (s.aC (k:=0) rfl I))) ?_)
  by_cases h2:b.length≤96
  ·skip
   refine zB rfl r9 (by simp;omega) ?_
   exact zk 3 rfl (WP.ret ⟨aa,_,rfl,by rw[dB ⟨h1,h2⟩],rfl⟩)
  ·skip
   refine zC rfl r9 (by simp;omega) ?_
   exact zk 3 rfl (WP.ret ⟨aa,_,rfl,by rw[er (fun q=>h2 q.2)],rfl⟩)
 ·skip
  refine zC rfl mV (by simp;omega) ?_
  exact zk 7 rfl (WP.ret ⟨aa,_,rfl,by rw[er (fun q=>h1 q.1)],rfl⟩)
noncomputable def szL : Code:=eu [1,1,0,1,0,0] ((Tryz.f84.body).getD .skip)
theorem Qc (hT:W told)(hX:wB X 1 cv us)(hc:∀c∈cs,c.length≤225)(hl:cs.length≤512): ∀(j i:Nat) (h:H) (E:List (Nat×V)) (Q:Ex→List (Nat×V)→H→Prop),i+j=cs.length →
  Sat h (X::cX us cs::S)→Has E [(3,.int .i64 (cB (cs.take i):Int)),(6,cv),(7,.int .i64 (cs.length:Int)),(8,.int .i64 (i:Int))] →
  (∀E' h',Has E' [(3,.int .i64 (cB cs:Int))]→Sat h' (X::cX us cs::S)→Q (.exit 0) E' h')→WP ⟨Tryz.prog,told⟩ 19 (.loop szL) E h Q:=by
 have hz:=SX hc hl
 intro j
 induction j with
 |zero =>
  intro i h E Q hi s hE hq
  have hi:i=cs.length:=hi
  subst hi
  rw[mo] at hE
  refine WP.loop (WP.has hE (zg rfl (zC rfl aO (by simp) ?_)))
  exact zk 3 rfl (WP.exit (hq _ _ ⟨rfl,aa⟩ s))
 |succ j ih =>
  intro i h E Q hi s hE hq
  obtain⟨c,I⟩:∃c,cs[i]?=some c:=⟨_,aG (by omega)⟩
  obtain⟨u,id,off,e1,e2,_,s⟩:=xB (P:=Tryz.prog) hX I aP dH bF s
  have gy:=hc c (aM I)
  have h1:=Av I
  have h2:=um (cs:=cs) (k:=i+1)
  refine WP.loop (WP.has hE (zg rfl (zB rfl aO (by simp;omega) ?_)))
  refine zk 5 rfl (WP.block (zg rfl (zo rfl (bS (r:=.ptr id off) rfl rfl e1) (zl rfl e2 (zk 5 rfl (zo rfl (aD rfl rfl rfl (aY aK (s.aC (k:=2) rfl (bj _ _)))) (zo rfl (ak (r:=.int .i64 ((c.length+4:Nat):Int)) rfl rfl (by rw[show((c.length+4:Nat):Int)=(c.length:Int)+4 by omega];exact aQ (aq (by omega) (by omega)))) ?_)))))))
  refine zo rfl (ak (r:=.int .i64 (cB (cs.take (i+1)):Int)) rfl rfl (by rw[show((cB (cs.take (i+1)):Nat):Int)=(cB (cs.take i):Int)+((c.length+4:Nat):Int) by omega];exact aQ (aq (by omega) (by omega)))) ?_
  refine za rfl (zv (zr rfl (zb rfl (by exact aQ (aq (by omega) (by omega))) ?_)))
  refine zm rfl (zv ?_)
  exact ih (i+1) _ _ Q (by omega) (s.del 2) ⟨rfl,rfl,rfl,rfl,aa⟩ hq
theorem EJ (hT:W told)(hX:wB X 1 cv us)(hc:∀c∈cs,c.length≤225)(hl:cs.length≤512)(s:Sat h (X::cX us cs::S)):
  Call ⟨Tryz.prog,told⟩ 84 [cv] h fun v h'=>v=.int .i64 (cB cs:Int)∧Sat h' (X::cX us cs::S):=by
 refine Call.of_wp (hT.free _ rfl) Tryz.func84 rfl rfl (zK 12 rfl (zo rfl (aD rfl rfl rfl (zu hX aP s)) (zk 2 rfl (WP.block (Qc hT hX hc hl cs.length 0 _ _ _ (by omega) s ⟨rfl,rfl,rfl,rfl,aa⟩ fun E' h' I s' => ?_)))))
 have s:=s'
 exact WP.has I (zK 5 rfl (WP.ret ⟨aa,_,rfl,rfl,s⟩))
noncomputable def hvL : Code:=eu [1,1,0,1,0,0] ((Tryz.f131.body).getD .skip)
theorem MS (hT:W told)(hX:wB X 1 cv us)(hc:∀c∈cs,c.length≤225)(hl:cs.length≤512)(hle:least≤4)(h1:1≤cs.length): ∀(j k I Gt:Nat) (h:H) (E:List (Nat×V)) (Q:Ex→List (Nat×V)→H→Prop),k+j=cs.length→1≤k→(I=0→∀i,i<k→¬lZ cs least i)→(I≠0→lZ cs least I) →
  Sat h (X::cX us cs::S)→Has E [(0,cv),(1,.int .i64 (least:Int)),(5,.int .i64 (cB cs:Int)),(6,.int .i64 (cB (cs.take (k-1)):Int)),(7,.int .i64 (I:Int)),(8,.int .i64 (Gt:Int)),(9,.int .i64 (k:Int))] →
  (∀E' h' I,(I=0→∀i,¬lZ cs least i)→(I≠0→lZ cs least I)→Has E' [(7,.int .i64 (I:Int))]→Sat h' (X::cX us cs::S)→Q (.exit 0) E' h')→WP ⟨Tryz.prog,told⟩ 64 (.loop hvL) E h Q:=by
 have hz:=SX hc hl
 intro j
 induction j with
 |zero =>
  intro k I Gt h E Q hk lS m7 lT s hE hq
  have hk:k=cs.length:=hk
  subst hk
  refine WP.loop (WP.has hE (zK 5 rfl (zo rfl (aD rfl rfl rfl (zu hX aP s)) (zC rfl aO (by simp) ?_))))
  refine zk 2 rfl (WP.exit ?_)
  exact hq _ _ I (fun e i hi=>by
   by_cases q:i<cs.length
   ·exact m7 e i q hi
   ·exact q hi.k2) lT ⟨rfl,aa⟩ s
 |succ j ih =>
  intro k I Gt h E Q hk lS m7 lT s hE hq
  obtain⟨c,xz⟩:∃c,cs[k-1]?=some c:=⟨_,aG (by omega)⟩
  obtain⟨u,id,off,e1,e2,_,s⟩:=xB (P:=Tryz.prog) hX xz aP dH bF s
  have gy:=hc c (aM xz)
  have h2:=Av xz
  have h3:=um (cs:=cs) (k:=k)
  rw[show k-1+1=k by omega] at h2
  have next:∀(Az Vy:Nat) {h:H} {E:List (Nat×V)},(Az=0→¬lZ cs least k∧I=0)→(Az≠0→Az=I∨Az=k∧lZ cs least k)→Sat h (X::cX us cs::oP u c::S) →
    Has E [(0,cv),(1,.int .i64 (least:Int)),(5,.int .i64 (cB cs:Int)),(6,.int .i64 (cB (cs.take k):Int)),(7,.int .i64 (Az:Int)),(8,.int .i64 (Vy:Int)),(9,.int .i64 ((k+1:Nat):Int))]→WP ⟨Tryz.prog,told⟩ 64 (.loop hvL) E h Q:=by
   intro Az Vy h E q1 q2 s hE
   refine ih (k+1) Az Vy _ _ Q (by omega) (by omega) (fun e i hi => ?_) (fun e => ?_) (s.del 2) hE hq
   ·obtain⟨q3,q4⟩:=q1 e
    by_cases q:i=k
    ·subst q;exact q3
    ·exact m7 q4 i (by omega)
   ·rcases q2 e with q3|⟨q3,q4⟩
    ·rw[q3];exact lT (by omega)
    ·rw[q3];exact q4
  refine WP.loop (WP.has hE (zK 5 rfl (zo rfl (aD rfl rfl rfl (zu hX aP s)) (zB rfl aO (by simp;omega) ?_))))
  refine zk 4 rfl (WP.block (zK 5 rfl (zo rfl (ak (r:=.int .i64 ((k-1:Nat):Int)) rfl rfl (by rw[show((k-1:Nat):Int)=(k:Int)-1 by omega];exact ew (aq (by omega) (by omega)))) ?_)))
  refine zo rfl (bS (r:=.ptr id off) rfl rfl e1) (zl rfl e2 (zo rfl (aD rfl rfl rfl (aY aK (s.aC (k:=2) rfl (bj _ _)))) (zo rfl (ak (r:=.int .i64 ((c.length+4:Nat):Int)) rfl rfl (by rw[show((c.length+4:Nat):Int)=(c.length:Int)+4 by omega];exact aQ (aq (by omega) (by omega)))) ?_)))
  refine zo rfl (ak (r:=.int .i64 (cB (cs.take k):Int)) rfl rfl (by rw[show((cB (cs.take k):Nat):Int)=(cB (cs.take (k-1)):Int)+((c.length+4:Nat):Int) by omega];exact aQ (aq (by omega) (by omega)))) ?_
  refine zk 7 rfl ?_
  by_cases c1:k<least
  ·skip
   refine zB rfl aO (by simp;omega) ?_
   refine zk 20 rfl (WP.exit (zK 2 rfl (zb rfl (by exact aQ (aq (by omega) (by omega))) ?_)))
   refine za rfl (zv ?_)
   exact next I Gt (fun e=>⟨fun q=>by have:=q.l1;omega,e⟩) (fun _=>.inl rfl) s ⟨rfl,rfl,rfl,rfl,rfl,rfl,rfl,aa⟩
  ·skip
   refine zC rfl aO (by simp;omega) ?_
   refine zk 2 rfl (zo rfl (aD rfl rfl rfl (zu hX aP s)) (zm rfl (zo rfl (ak (r:=.int .i64 ((cs.length-k:Nat):Int)) rfl rfl (by rw[show((cs.length-k:Nat):Int)=(cs.length:Int)-(k:Int) by omega];exact ew (aq (by omega) (by omega)))) ?_)))
   refine zm rfl ?_
   by_cases c2:cs.length-k<least
   ·skip
    refine zB rfl aO (by simp;omega) ?_
    refine zk 13 rfl (WP.exit (zK 2 rfl (zb rfl (by exact aQ (aq (by omega) (by omega))) ?_)))
    refine za rfl (zv ?_)
    exact next I Gt (fun e=>⟨fun q=>by have:=q.l2;omega,e⟩) (fun _=>.inl rfl) s ⟨rfl,rfl,rfl,rfl,rfl,rfl,rfl,aa⟩
   ·skip
    refine zC rfl aO (by simp;omega) ?_
    refine zk 3 rfl ?_
    by_cases c3:486<cB (cs.take k)
    ·skip
     refine zB rfl cV (by simp;omega) ?_
     refine zk 9 rfl (WP.exit (zK 2 rfl (zb rfl (by exact aQ (aq (by omega) (by omega))) ?_)))
     refine za rfl (zv ?_)
     exact next I Gt (fun e=>⟨fun q=>by have:=q.s1;omega,e⟩) (fun _=>.inl rfl) s ⟨rfl,rfl,rfl,rfl,rfl,rfl,rfl,aa⟩
    ·skip
     refine zC rfl cV (by simp;omega) ?_
     refine zk 4 rfl (zo rfl (ak (r:=.int .i64 (cB (cs.drop k):Int)) rfl rfl (by rw[show((cB (cs.drop k):Nat):Int)=(cB cs:Int)-(cB (cs.take k):Int) by omega];exact ew (aq (by omega) (by omega)))) ?_)
     by_cases c4:486<cB (cs.drop k)
     ·skip
      refine zB rfl cV (by simp;omega) ?_
      refine zk 3 rfl (WP.exit (zK 2 rfl (zb rfl (by exact aQ (aq (by omega) (by omega))) ?_)))
      refine za rfl (zv ?_)
      exact next I Gt (fun e=>⟨fun q=>by have:=q.s2;omega,e⟩) (fun _=>.inl rfl) s ⟨rfl,rfl,rfl,rfl,rfl,rfl,rfl,aa⟩
     ·skip
      refine zC rfl cV (by simp;omega) ?_
      refine zk 9 rfl (zo rfl (ak (r:=.int .i64 (cB (cs.drop k):Int)) rfl rfl (by rw[show((cB (cs.drop k):Nat):Int)=(cB cs:Int)-(cB (cs.take k):Int) by omega];exact ew (aq (by omega) (by omega)))) ?_)
      obtain⟨d,hd⟩:∃d:Nat,max ((cB (cs.take k):Nat):Int) ((cB (cs.drop k):Nat):Int)=(d:Int):=⟨max (cB (cs.take k)) (cB (cs.drop k)),by omega⟩
      refine zo rfl (Ux (r:=.int .i64 (d:Int)) rfl rfl (acw.trans (by rw[hd]))) ?_
      have nV:lZ cs least k:=⟨lS,by omega,by omega,by omega,by omega,by omega⟩
      refine zk 5 rfl ?_
      by_cases c5:I=0
      ·skip
       refine zB rfl c8 (by simp;omega) ?_
       refine zk 5 rfl (zv (zi rfl (zr rfl (zk 4 rfl (zv (zr rfl (zm rfl (zb rfl (by exact aQ (aq (by omega) (by omega))) ?_))))))))
       refine za rfl (zv ?_)
       exact next k d (fun e=>by omega) (fun _=>.inr ⟨rfl,nV⟩) s ⟨rfl,rfl,rfl,rfl,rfl,rfl,rfl,aa⟩
      ·skip
       refine zC rfl c8 (by simp;omega) ?_
       refine zk 3 rfl ?_
       by_cases c6:d<Gt
       ·skip
        refine zB rfl aO (by simp;omega) ?_
        refine zp rfl (zv (zi rfl (zr rfl (zk 4 rfl (zv (zr rfl (zm rfl (zb rfl (by exact aQ (aq (by omega) (by omega))) ?_))))))))
        refine za rfl (zv ?_)
        exact next k d (fun e=>by omega) (fun _=>.inr ⟨rfl,nV⟩) s ⟨rfl,rfl,rfl,rfl,rfl,rfl,rfl,aa⟩
       ·skip
        refine zC rfl aO (by simp;omega) ?_
        refine zp rfl (zv (zj rfl (WP.skip (zr rfl (zm rfl (zb rfl (by exact aQ (aq (by omega) (by omega))) ?_))))))
        refine za rfl (zv ?_)
        exact next I Gt (fun e=>absurd e c5) (fun _=>.inl rfl) s ⟨rfl,rfl,rfl,rfl,rfl,rfl,rfl,aa⟩
theorem I8 (hT:W told)(hX:wB X 1 cv us)(hc:∀c∈cs,c.length≤225)(hl:cs.length≤512)(hle:least≤4)(h1:1≤cs.length)(s:Sat h (X::cX us cs::S)):
  Call ⟨Tryz.prog,told⟩ 131 [cv,.int .i64 (least:Int)] h fun v h'=>∃I:Nat,v=.int .i64 (I:Int)∧(I=0→∀i,¬lZ cs least i)∧(I≠0→lZ cs least I)∧Sat h' (X::cX us cs::S):=by
 refine Call.of_wp (hT.free _ rfl) Tryz.func131 rfl rfl (zK 7 rfl (zc rfl (EJ hT hX hc hl s) ?_))
 rintro v h ⟨rfl,s⟩
 refine zk 10 rfl (WP.block (MS hT hX hc hl hle h1 (cs.length-1) 1 0 0 _ _ _ (by omega) (aI _) (fun _ i hi q=>by have:=q.k1;omega) (fun e=>absurd rfl e) s ⟨rfl,rfl,rfl,rfl,rfl,rfl,rfl,aa⟩ fun E' h' I q1 q2 eN s' => ?_))
 have s:=s'
 exact WP.has eN (zK 5 rfl (WP.ret ⟨aa,_,rfl,I,rfl,q1,q2,s⟩))
noncomputable def tmL : Code:=eu [1,1,1,0,1,0,0] ((Tryz.f165.body).getD .skip)
theorem Qd (hT:W told)(hX:wB X 1 cv us)(hf:cB cs≤486): ∀(j i:Nat) (v:V) (b:List Nat) (h:H) (E:List (Nat×V)) (Q:Ex→List (Nat×V)→H→Prop),i+j=cs.length→fA b 204 0 l (cs.take i) →
  Sat h (X::cX us cs::aU v b::S)→Has E [(5,v),(19,cv),(20,.int .i64 (cs.length:Int)),(21,.int .i64 (i:Int))] →
  (∀E' h' v' b',fA b' 204 0 l cs→Has E' [(5,v')]→Sat h' (X::cX us cs::aU v' b'::S)→Q (.exit 0) E' h')→WP ⟨Tryz.prog,told⟩ 35 (.loop tmL) E h Q:=by
 have hlen:cs.length≤512:=by rw[j5] at hf;omega
 intro j
 induction j with
 |zero =>
  intro i v b h E Q hi hp s hE hq
  have hi:i=cs.length:=hi
  subst hi
  rw[mo] at hp
  refine WP.loop (WP.has hE (zg rfl (zC rfl aO (by simp) ?_)))
  exact zk 3 rfl (WP.exit (hq _ _ v b hp ⟨rfl,aa⟩ s))
 |succ j ih =>
  intro i v b h E Q hi hp s hE hq
  obtain⟨c,xz⟩:∃c,cs[i]?=some c:=⟨_,aG (by omega)⟩
  obtain⟨u,id,off,e1,e2,_,s⟩:=xB (P:=Tryz.prog) hX xz aP dH bF s
  have h1:=Av xz
  have h2:=um (cs:=cs) (k:=i+1)
  have htl:(cs.take i).length=i:=by rw[cH];omega
  have I:(cs.take (i+1)).length=i+1:=by rw[cH];omega
  have uK:cs.take (i+1)=cs.take i++[c]:=by rw[qV,xz];rfl
  have LB:=NT (told:=told) hT (s.ae [3,2]) (aZ _ _) (bj _ _) hp (by rw[htl];rw[j5,j5] at h1;rw[htl,I] at h1;rw[j5,I] at h2;omega)
  rw[htl] at LB
  refine WP.loop (WP.has hE (zg rfl (zB rfl aO (by simp;omega) ?_)))
  refine zk 5 rfl (WP.block (zK 3 rfl (zo rfl (bS (r:=.ptr id off) rfl rfl e1) (zl rfl e2 (zk 7 rfl (zc rfl (LB) ?_))))))
  rintro r h ⟨u',b',rfl,p_,s⟩
  rw[←uK] at p_
  refine zk 4 rfl (zv (zr rfl (zb rfl (by exact aQ (aq (by omega) (by omega))) ?_)))
  refine zm rfl (zv ?_)
  exact ih (i+1) u' b' _ _ Q (by omega) p_ ((s.ae [3,3,0]).del 4 |>.del 3) ⟨rfl,rfl,rfl,rfl,aa⟩ hq
theorem LC (I:W told)(hX:wB X 1 cv us)(hf:cB cs≤486)(hl:l≤64)(s:Sat h (X::cX us cs::S)):
  Call ⟨Tryz.prog,told⟩ 165 [.int .i64 (l:Int),cv] h fun v h'=>∃b',fA b' 204 0 l cs∧Sat h' (aU v b'::X::cX us cs::S):=by
 refine Call.of_wp (I.free _ rfl) Tryz.func165 rfl rfl (zK 6 rfl (zc rfl (K8 (kd:=204) I s (by decide)) ?_))
 rintro v h ⟨u1,b1,rfl,lT,s⟩
 refine zk 10 rfl (zc rfl (NS (lk:=0) (ex:=l) I s (aZ _ _) lT (by decide) (by omega)) ?_)
 rintro v h ⟨u2,b2,rfl,qa,s⟩
 have s:=s.ae [2,2,0]
 refine zk 9 rfl (zo rfl (aD rfl rfl rfl (zu hX aP s)) (zk 2 rfl (WP.block (Qd I hX hf cs.length 0 u2 b2 _ _ _ (by omega) qa s ⟨rfl,rfl,rfl,rfl,aa⟩ fun E' h' v' b' xq eN s' => ?_))))
 have s:=s'
 exact WP.has eN (zK 5 rfl (WP.ret ⟨aa,_,rfl,b',xq,(s.ae [2,0,0]).del 3⟩))
theorem wF (hT:W told)(hB:B≤2000)(I:EI N B ε)(hw:NW N now)(hi:i<N)(s:Sat h (GA g a p q r data aN now ε::X::S))(hX:cf X (cy v b))(hg:cF b=true):
  Call ⟨Tryz.prog,told⟩ 55 [.ptr g 0,.int .i64 (i:Int),v] h fun v h'=>∃ag,v=.int .i64 0∧EI N B ag∧Sm N ε ag∧NW N (cD (i:Int) b now)∧Sat h' (GA g a p q r data aN (cD (i:Int) b now) ag::X::S):=by
 have Ap:=I.dz
 have hwt:=tw (ε:=ε)
 have hlen:=jK hg
 have hb:=(s.aC (k:=1) rfl hX).1
 have s:=cK.1 s
 refine(IU hT (n:=(i:Int)) s hX (by omega) I.ok (by omega) (fun e he=>jK (hw.good e he).1)).mono ?_
 rintro v h ⟨e,aF,ag,hr,rfl,s⟩
 obtain⟨k1,k2,k3,k4,k5⟩:=hr.ec I.ec I.ok.pins
 obtain⟨rfl,rfl⟩:=k5 (by omega) (by omega) hg
 exact⟨ag,rfl,I.KZ hr,⟨k2,fun P hP hv=>hP.KZ hr I.ec hv,hr.dz⟩,hw.put (by omega) (by omega) hg hb,cK.2 s⟩
theorem mN (hT:W told)(hB:B≤2000)(cA:EI N B ε)(hw:NW N now)(hn:n<N)(hX:wB X 1 cv us)(hf:cB cs≤486)(hl:l≤64)(s:Sat h (GA g a p q r data aN now ε::X::cX us cs::S)):
  Call ⟨Tryz.prog,told⟩ 92 [.ptr g 0,.int .i64 (n:Int),.int .i64 (l:Int),cv] h fun v h'=>∃ag b',v=.int .i64 0∧EI N B ag∧Sm N ε ag∧NW N (cD (n:Int) b' now)∧fA b' 204 0 l cs∧Sat h' (GA g a p q r data aN (cD (n:Int) b' now) ag::X::cX us cs::S):=by
 have s:=s.ae [1,1]
 refine Call.of_wp (hT.free _ rfl) Tryz.func92 rfl rfl (zK 10 rfl (zc rfl (LC hT hX hf hl s) ?_))
 rintro bv h ⟨b',hp,s⟩
 have s:=s.ae [3,0]
 refine zc rfl (wF hT hB cA hw hn s (aZ _ _) hp.good) ?_
 rintro v h ⟨ag,rfl,I,hs,tY,s⟩
 exact zk 2 rfl (WP.ret ⟨aa,_,rfl,ag,b',rfl,I,hs,tY,hp,s.del 1⟩)
noncomputable def ldL : Code:=eu [1,1,1,1,1,1,1,0,1,0,0] ((Tryz.f77.body).getD .skip)
theorem SY (hT:W told){nn:V}(hc:∀c∈cs,jQ l c∧c.length≤225)(hlen:cs.length≤512)(hl:l≤64): ∀(j i:Nat) (h:H) (E:List (Nat×V)) (Q:Ex→List (Nat×V)→H→Prop),i+j=cs.length →
  Sat h (roH 1 cv us::cX us cs::S)→Has E [(1,nn),(6,v),(11,.int .i64 (l:Int)),(12,cv),(50,cv),(51,.int .i64 (cs.length:Int)),(52,.int .i64 (i:Int))] →
  (∀E' h',Has E' [(1,nn),(6,v),(11,.int .i64 (l:Int)),(12,cv)]→Sat h' (roH 1 cv us::cX us cs::S)→Q (.exit 0) E' h')→WP ⟨Tryz.prog,told⟩ 89 (.loop ldL) E h Q:=by
 intro j
 induction j with
 |zero =>
  intro i h E Q hi s hE hq
  have hi:i=cs.length:=hi
  subst hi
  refine WP.loop (WP.has hE (zg rfl (zC rfl aO (by simp) ?_)))
  exact zk 3 rfl (WP.exit (hq _ _ ⟨rfl,rfl,rfl,rfl,aa⟩ s))
 |succ j ih =>
  intro i h E Q hi s hE hq
  obtain⟨c,xz⟩:∃c,cs[i]?=some c:=⟨_,aG (by omega)⟩
  obtain⟨u,id,off,e1,e2,_,s⟩:=xB (P:=Tryz.prog) (FP _ _ _).s xz aP dH bF s
  obtain⟨I,gy⟩:=hc c (aM xz)
  have hv:=s.aC (k:=2) rfl (bj _ _)
  refine WP.loop (WP.has hE (zg rfl (zB rfl aO (by simp;omega) ?_)))
  refine zk 5 rfl (WP.block (zg rfl (zo rfl (bS (r:=.ptr id off) rfl rfl e1) (zl rfl e2 (zk 5 rfl ?_)))))
  by_cases h0:l=0
  ·subst h0
   have I:1≤c.length∧1+c.getD 0 0≤c.length:=I
   have m7:c[0]?=some (c.getD 0 0):=by grind
   obtain⟨lD,bo,e3,e4⟩:=fg hv m7
   generalize c.getD 0 0=z at I m7 e3 e4
   have hz:z<256:=hv.1 z (aM m7)
   refine zB rfl c8 (by simp) ?_
   refine zk 2 rfl (zo rfl (aD rfl rfl rfl (aY aK hv)) (zC rfl c8 (decide_eq_false (by omega)) ?_))
   refine zk 2 rfl (zo rfl (aD rfl rfl rfl (aY aK hv)) (zm rfl (zo rfl (bS (r:=.ptr lD bo) rfl rfl e3) (zl rfl e4 (zo rfl (cL rfl (by exact kJ Tryz.underlying5 cm (aq (by omega) (by omega)))) ?_)))))
   refine zo rfl (ak (r:=.int .i64 ((1+z:Nat):Int)) rfl rfl (by rw[show((1+z:Nat):Int)=1+(z:Int) by omega];exact aQ (aq (by omega) (by omega)))) ?_
   refine zC rfl aO (by simp;omega) ?_
   refine zk 4 rfl (zC rfl cV (by simp) ?_)
   refine zk 6 rfl (zv (zj rfl (WP.skip (zr rfl (zb rfl (by exact aQ (aq (by omega) (by omega))) ?_)))))
   refine zm rfl (zv ?_)
   exact ih (i+1) _ _ Q (by omega) (s.del 2) ⟨rfl,rfl,rfl,rfl,rfl,rfl,rfl,aa⟩ hq
  ·have I:4≤c.length:=by rw[jQ,ai h0] at I;exact I
   refine zC rfl c8 (by simp;omega) ?_
   refine zk 17 rfl (zB rfl cV (by simp;omega) ?_)
   refine zk 2 rfl (zo rfl (aD rfl rfl rfl (aY aK hv)) (zC rfl aO (by simp;omega) ?_))
   refine zk 2 rfl (zv (zj rfl (WP.skip (zr rfl (zb rfl (by exact aQ (aq (by omega) (by omega))) ?_)))))
   refine zm rfl (zv ?_)
   exact ih (i+1) _ _ Q (by omega) (s.del 2) ⟨rfl,rfl,rfl,rfl,rfl,rfl,rfl,aa⟩ hq
theorem Od (hT:W told)(hR:rO told N B rv A pg)(cA:EI N B ε)(hn:n<N)(hp:bH (pg ε n) 204 0 l cs)(hc:∀c∈cs,jQ l c∧c.length≤225)(hl:l≤64)(s:Sat h (A ε::S)):
  Call ⟨Tryz.prog,told⟩ 77 [rv,.int .i64 (n:Int)] h fun v h'=>∃x ag,v=.aT [.ptr x 0,.int .i64 0]∧EI N B ag∧Sm N ε ag∧Sat h' (a_ x n l (pg ε n) cs::A ag::S):=by
 obtain⟨ty,u,f,rfl,hm,ju⟩:=hR.iface
 have cU:=hp.fits
 obtain⟨Pz,sO,I,adD⟩:=hp.reads
 refine Call.of_wp (hT.free _ rfl) Tryz.func77 rfl rfl (zK 9 rfl (au.any rfl rfl rfl (OpR.invoke rfl rfl rfl hm rfl (ju (n:=(n:Int)) cA (by omega) (by omega) s)) ?_))
 rintro v h ⟨bv,ag,rfl,uJ,hs,s⟩
 refine zk 10 rfl (zC rfl aH (rfl) (zk 6 rfl (zc rfl (HI hT s (aZ _ _) (by omega)) ?_)))
 rintro v h ⟨s,(⟨hg,rfl⟩|⟨hg,rfl⟩)⟩
 ·rw[I,adD]
  have s:=s.eW
  refine zk 16 rfl (zC rfl aH (rfl) (zk 2 rfl (zC rfl aH (by decide) ?_)))
  refine zk 3 rfl (zC rfl cV (by simp;omega) ?_)
  refine zk 7 rfl (zc rfl (P3 hT s (bj _ _) hp) ?_)
  rintro v h ⟨cv,us,rfl,s⟩
  have s:=s.tZ
  refine zk 10 rfl (zC rfl aH (rfl) (zk 7 rfl (zo rfl (aD rfl rfl rfl (zu (FP _ _ _).s aP s)) (zk 2 rfl (WP.block (SY hT hc (by omega) hl cs.length 0 _ _ _ (by omega) s ⟨rfl,rfl,rfl,rfl,rfl,rfl,rfl,aa⟩ fun E' h' eN s' => ?_))))))
  have s:=s'
  have QH:cv.cells=[cv]∧storable cv=true:=by
   rcases (s.BU (j:=0) rfl (FP _ _ _)).2 with⟨rfl,_⟩|⟨_,_,_,_,_,rfl,_⟩<;>exact⟨rfl,rfl⟩
  have SZ:=(s.aC (k:=2) rfl (bj _ _)).cells
  refine WP.has eN (zK 6 rfl (zo rfl (cQ (r:=.agg (uL n l bv cv)) rfl (Qb (s.aC (k:=2) rfl (bj _ _)) (s.BU (j:=0) rfl (FP _ _ _)))) (au.b_ s rfl rfl rfl (eU rfl (by simp only[V.cells,kD,lP,QH.2,SZ.2];rfl)) ?_)))
  intro x h s
  refine zk 3 rfl (WP.ret ⟨aa,_,rfl,?_⟩)
  have s:=(s.ae [1]).dQ JN
  exact⟨x,ag,rfl,uJ,hs,bh.2 ⟨bv,cv,us,s.ae [1,2,0,0]⟩⟩
 ·rw[sO] at hg;cases hg
end
def Co (v:V)(us:List V): aE:=.xs fun o:Option Nat=>match o with
 |none=>.an (.arr 1 v []) (.pu (us=[]))
 |some x=>.an (pt x (.cells us.length us false)) (.pu (v=.sl x 0 us.length (.rest 1 0)∧1≤us.length∧us.all storable=true))
section
variable {v:V} {i:TypeInfo}
theorem kL : cf (Co v us) (.arr 1 v us):=fun m r h=>by
 obtain⟨_|x,I,h2⟩:=h
 ·have h2:us=[]:=h2
  subst h2
  exact I
 ·obtain⟨rfl,h3,h4⟩:=h2
  have I:m x=some (.cells us.length us false):=I
  exact⟨h4,.inr ⟨x,us.length,.rest 1 0,us.length,[],rfl,by rw[fe];exact I,by omega,by rw[cj,eS],rfl,rfl,rfl,rfl,h3⟩⟩
theorem EK (s:Sat h (Co v us::S))(hn:1≤us.length): ∃x,v=.sl x 0 us.length (.rest 1 0)∧us.all storable=true∧Sat h (pt x (.cells us.length us false)::S):=by
 obtain⟨_|x,s⟩:=jv.1 s
 ·have s:Sat h (aE.an (.arr 1 v []) (.pu (us=[]))::S):=s
  obtain⟨_,_,_,_,_,I⟩:=s.at (k:=0) rfl
  have I:us=[]:=I
  subst I
  simp at hn
 ·have s:Sat h (aE.an (pt x (.cells us.length us false)) (.pu (v=.sl x 0 us.length (.rest 1 0)∧1≤us.length∧us.all storable=true))::S):=s
  obtain⟨_,_,_,_,_,q1,q2,q3⟩:=s.at (k:=0) rfl
  exact⟨x,q1,q3,s.dQ fun _ _ h=>h.1⟩
theorem Cp (hn:1≤us.length)(I:us.all storable=true)(s:Sat h (pt x (.cells us.length us false)::S)): Sat h (Co (.sl x 0 us.length (.rest 1 0)) us::S) :=
 s.dQ fun _ _ h=>⟨some x,h,rfl,hn,I⟩
theorem adE (hu:P.underlying t=some (.slice e)): binV P h .eql t ox oy .aR .aR=some (.bool true):=by simp only[binV,eqV,hu,gJ]
theorem adF {cap:Cap}(hu:P.underlying t=some (.slice e)): binV P h .eql t ox oy (.sl id off n cap) .aR=some (.bool false):=by simp only[binV,eqV,hu,gJ]
theorem bs0 (hu:P.underlying t=some (.slice e))(I:zeroT P e=some z)(hs:bp P e=some z.cells.length)(h1:Nat.ble 1 z.cells.length=true:=by rfl): buildSliceV P h t 0 []=some (.sl h.next 0 0 (.exact 0),h.new (.cells 0 [] false)):=by
 unfold buildSliceV
 simp only[hu,hs,I]
 rw[show(Nat.beq z.cells.length z.cells.length&&Nat.ble (0*z.cells.length) 65536&&Nat.ble 1 z.cells.length)=true by rw[nC,h1,kE];rfl,ah]
 rfl
theorem aa9 (a:qI (T.get h.tr) 1 v us)(hu:P.underlying t=some (.slice e))(I:bp P e=some 1): ∃v',sliceV P h t v (some us.length) none none=some v':=by
 rcases a.2 with⟨rfl,rfl⟩|⟨id,n,cap,N,rest,rfl,hg,q1,q2,q3,q4⟩
 ·refine⟨.aR,?_⟩
  simp only[sliceV,hu,I,fR,dD,cj]
  rfl
 ·rw[dV] at q1
  subst q1
  refine Option.isSome_iff_exists.1 ?_
  cases cap with
  |exact c =>
   have q4:_∧us.length≤c:=q4
   simp only[sliceV,hu,I,fR,dD]
   rw[show(Nat.ble us.length us.length&&Nat.ble us.length c)=true by simp;omega,ah]
   rfl
  |rest z alt =>
   have q4:z=1∧_:=q4
   simp only[sliceV,hu,I,fR,dD]
   rw[show(Nat.beq z 1&&Nat.ble 1 1)=true by simp[q4.1],ah,show(Nat.ble us.length us.length&&(Nat.ble us.length us.length||Nat.ble us.length (fU h id 0 1)))=true by simp,ah]
   rfl
theorem S0 {ds:List V}(hX:wB X 1 w ds)(s:Sat h (X::S))(hu:P.underlying t=some (.slice e))(hi:P.info? e=some i)(hz:zeroT P e=some z)(hk:i.size=1)(hb:i.bytes≤4096)(hl:z.cells.length=1)(fJ:ds.length≤1073741824):
  ∃v' h',appendV P (h.new (.cells 0 [] false)) #[t,t] (.sl h.next 0 0 (.exact 0)) w=some (v',h')∧Sat h' (Co v' ds::X::S):=by
 have s0:=s.new (.cells 0 [] false)
 have eD:=(s.kZ (j:=0) rfl hX).1
 obtain⟨n,hn,I⟩:=aaX (s0.kZ (j:=1) rfl hX)
 rw[dV] at hn
 subst hn
 unfold appendV
 simp only[hu,hi,hz,hk,hl,I]
 rw[show(Nat.ble 1 1&&Nat.ble i.bytes 4096&&Nat.beq 1 1)=true by simp_all,ah]
 by_cases hm:ds.length=0
 ·have:ds=[]:=ic hm
  subst this
  refine⟨_,_,rfl,s0.dQ fun m r DZ=>⟨none,?_,rfl⟩⟩
  exact⟨rfl,.inr ⟨h.next,0,.exact 0,0,[],rfl,DZ,by rfl,by rfl,rfl,by rfl,aI _⟩⟩
 ·rw[fH hm,aV]
  have hg:mA (0+ds.length) i.bytes=true:=by
   have e3:(0+ds.length)*i.bytes≤(0+ds.length)*4096:=CQ _ hb
   grind[rU]
  have hr:rdN (h.new (.cells 0 [] false)) h.next 0 (0*1)=some []:=by
   simp only[rdN,iX,dw]
   rfl
  have hle:Nat.ble (0+ds.length) 0=false:=by
   cases hq:Nat.ble (0+ds.length) 0 with
   |false=>rfl
   |true=>have:=aW.1 hq;omega
  simp only[hle,aV,hg,ah,hr]
  have e:mB (h.new (.cells 0 [] false)) 1 [] ds (0+ds.length)=(.sl (h.new (.cells 0 [] false)).next 0 ds.length (.rest 1 0),(h.new (.cells 0 [] false)).new (.cells ds.length ds false)):=by
   simp only[mB,fh,dV,dG]
  rw[e]
  exact⟨_,_,rfl,Cp (by omega) eD (s0.drop.new _)⟩
end
section
variable {told:cE} {v:V}
theorem mO (hT:W told)(s:Sat h (X::S))(hX:wB X 1 v us)(hl:us.length≤512): Call ⟨Tryz.prog,told⟩ 48 [v] h fun r h'=>Sat h' (Co r us::X::S):=by
 obtain⟨i1,I,fy,o8⟩:=qP
 have hm:=s.kZ (j:=0) rfl hX
 refine Call.of_wp (hT.free _ rfl) Tryz.func48 rfl rfl ?_
 rcases hm.2 with⟨rfl,rfl⟩|⟨id,off,n,cap,N,row,rfl,hg,q1,q2,q3,q4⟩
 ·skip
  exact zK 8 rfl (zo rfl (ak (r:=.bool true) rfl rfl (adE aP)) (zk 6 rfl (WP.ret ⟨aa,_,rfl,s.map fun m r hs=>⟨fun _=>none,m,fun _=>.inl rfl,fun _ _ h=>(by cases h),PM.le_refl _,⟨none,⟨rfl,.inl ⟨rfl,rfl⟩⟩,rfl⟩,hs⟩⟩)))
 ·skip
  refine zK 8 rfl (zo rfl (ak (r:=.bool false) rfl rfl (adF aP)) (zk 5 rfl (au.any rfl rfl rfl (OpR.of (R:=fun v h'=>v=.sl h.next 0 0 (.exact 0)∧h'=h.new (.cells 0 [] false)) (ku rfl (bs0 aP lq dH)) ⟨rfl,rfl⟩) ?_)))
  rintro v' h' ⟨rfl,rfl⟩
  obtain⟨av,h2,sB,s2⟩:=S0 (P:=Tryz.prog) hX s aP I lq fy (by omega) rfl (by omega)
  refine zm rfl (au.any rfl rfl rfl (OpR.of (R:=fun v h'=>v=av∧h'=h2) (j_ rfl rfl sB) ⟨rfl,rfl⟩) ?_)
  rintro v' h ⟨rfl,rfl⟩
  have s:=s2
  exact zk 2 rfl (WP.ret ⟨aa,_,rfl,s⟩)
structure Xw (told:cE): Prop where
 free:∀f,Nat.beq f 52=true→told f=none
theorem Xw.base : Xw tN:=⟨fun f I=>by
 have:=beq_iff.1 I
 subst this
 rfl⟩
theorem Y9 (hT:Xw told)(s:Sat h (.arr 1 v us::.arr 1 y [u]::S))(hl:us.length≤512): Call ⟨Tryz.prog,told⟩ 52 [v,.int .i64 (us.length:Int),y] h fun r h'=>Sat h' (.arr 1 r (us++[u])::S):=by
 obtain⟨i1,I,fy,o8⟩:=qP
 obtain⟨v1,RS⟩:=aa9 (P:=Tryz.prog) (s.BU (j:=0) rfl (ji _ _ _)) aP dH
 refine Call.of_wp (hT.free _ rfl) yY rfl rfl (zK 8 rfl (zo rfl (bO (p:=some (.int .i64 (us.length:Int))) (q:=none) (m:=none) (p':=some us.length) (q':=none) (m':=none) rfl rfl rfl rfl (by rw[bT (by omega)];rfl) rfl rfl RS) ?_))
 refine zk 4 rfl (zo rfl (aD rfl rfl rfl (s.fW (j:=1) (n:=1) rfl rfl (by decide) aP)) ?_)
 refine zk 6 rfl (zC rfl c8 (rfl) (zk 6 rfl (zo rfl (aD rfl rfl rfl (s.fW (j:=0) (n:=us.length) rfl (by rw[dV]) (by decide) aP)) ?_)))
 refine zk 7 rfl (zB rfl c8 (by simp) ?_)
 obtain⟨av,h2,sB,s2⟩:=h_ (P:=Tryz.prog) s aP I lq fy (by omega) rfl (by decide) (by simp;omega)
 refine zk 6 rfl (au.any rfl rfl rfl (OpR.of (R:=fun v h'=>v=av∧h'=h2) (j_ rfl rfl sB) ⟨rfl,rfl⟩) ?_)
 rintro v' h ⟨rfl,rfl⟩
 have s:=s2.del 1
 exact zk 2 rfl (WP.ret ⟨aa,_,rfl,s⟩)
structure WI (told:cE): Prop extends WB told where
 ins:told 52=some (qz Tryz.prog 52 Gs)
theorem Y_ (hT:WI told)(s:Sat h (Co v us::pt x (.cells 1 [u] false)::S))(hu:storable u=true)(hi:i<us.length)(hl:us.length≤512):
  Call ⟨Tryz.prog,told⟩ 52 [v,.int .i64 (i:Int),.sl x 0 1 (.exact 1)] h fun r h'=>Sat h' (Co r (cW i u us)::S):=by
 obtain⟨z,rfl,eD,s⟩:=EK s (by omega)
 have hz:T.get h.tr z=some (.cells us.length us false):=by
  obtain⟨m,r,h1,_,h3⟩:=s.at (k:=0) rfl
  exact h1 _ _ h3
 have hx:T.get h.tr x=some (.cells 1 [u] false):=by
  obtain⟨m,r,h1,_,h3⟩:=s.at (k:=1) rfl
  exact h1 _ _ h3
 have eZ:x≠z:=fun e=>s.ne e.symm
 obtain⟨r,h3,h4⟩:=wZ (P:=Tryz.prog) (f:=52) (l9:=Gs) (args:=[.sl z 0 us.length (.rest 1 0),.int .i64 (i:Int),.sl x 0 1 (.exact 1)]) (h:=h) (r:=(.sl h.next 0 (us.length+1) (.rest 1 0),(h.put z none).new (.cells (us.length+1) (cW i u us) false)))
  (.inl ⟨z,x,us.length,i,us,u,rfl,hz,hx,hi,rfl⟩) fun c w ux hw=>Y8 ux hz hx eZ hi (by omega) (hw _ (by simp))
 have hr:r=(.sl h.next 0 (us.length+1) (.rest 1 0),(h.put z none).new (.cells (us.length+1) (cW i u us) false)):=by
  rcases h4 with⟨x2,y2,n2,i2,qw,u2,I,g1,g2,g3,rfl⟩|⟨_,⟨x2,n2,t2,y2,I⟩|⟨y2,I⟩⟩
  ·injection I with I e2
   injection I with I _ e3 _
   injection e2 with e2 e4
   injection e4 with e4 _
   injection e4 with e4 _ _ _
   injection e2 with _ e2
   subst I e4 e3
   have e2:i=i2:=by omega
   subst e2
   rw[hz] at g1
   rw[hx] at g2
   cases g1
   cases g2
   rfl
  ·injection I with I e2
   injection I with _ _ e3 _
   injection e2 with e2 e4
   injection e2 with _ e2
   omega
  ·exact absurd (congrArg List.head? I) (by simp)
 subst hr
 refine⟨_,_,iL.told hT.ins yY rfl h3,?_⟩
 have hlen:(cW i u us).length=us.length+1:=kS (by omega)
 have s1:=(s.kill.new (.cells (us.length+1) (cW i u us) false))
 have sn:(cW i u us).all storable=true:=by
  rw[oA] at eD ⊢
  intro a ha
  simp only[cW,nB,gj] at ha
  rcases ha with h1|rfl|h1
  ·exact eD a (iV h1)
  ·exact hu
  ·exact eD a (jh h1)
 have s2:Sat ((h.put z none).new (.cells (us.length+1) (cW i u us) false)) (pt (h.put z none).next (.cells (cW i u us).length (cW i u us) false)::pt x (.cells 1 [u] false)::S):=by rw[hlen];exact s1
 have s3:=(Cp (by omega) sn s2).del 1
 rw[hlen] at s3
 exact s3
theorem S1 (hT:WI told)(s:Sat h (.arr 1 v us::.arr 1 y [u]::S))(hl:us.length≤512): Call ⟨Tryz.prog,told⟩ 52 [v,.int .i64 (us.length:Int),y] h fun r h'=>Sat h' (.arr 1 r (us++[u])::S):=by
 have hm:=s.BU (j:=0) rfl (ji _ _ _)
 obtain⟨v1,h1,⟨N,hN⟩,hR⟩:=Y9 (told:=tN) Xw.base s hl
 obtain⟨r,h3,h4⟩:=wZ (P:=Tryz.prog) (f:=52) (l9:=Gs) (args:=[v,.int .i64 (us.length:Int),y]) (h:=h) (r:=(v1,h1)) (.inr ⟨⟨N,hN⟩,by
   rcases hm.2 with⟨rfl,rfl⟩|⟨id,n,cap,N,rest,rfl,hg,q1,_⟩
   ·exact .inr ⟨y,rfl⟩
   ·rw[dV] at q1
    exact .inl ⟨id,n,cap,y,by rw[q1]⟩⟩) fun c w I hw=>(callF_ok (C:=CB) (De Ca Ai N).1 Ai hN I hw).1
 have hr:r=(v1,h1):=by
  rcases h4 with⟨x2,y2,n2,i2,qw,u2,e1,g1,g2,g3,rfl⟩|⟨hd,_⟩
  ·obtain⟨e1,e2⟩:=List.cons.inj e1
   obtain⟨e2,_⟩:=List.cons.inj e2
   have e2:=(V.int.inj e2).2
   subst e1
   rcases hm.2 with⟨e,_⟩|⟨id,n,cap,N,rest,e,hg,q1,_⟩
   ·cases e
   ·cases e
    omega
  ·obtain⟨a,b⟩:=iL.det hd ⟨N,hN⟩
   exact Prod.ext a b
 subst hr
 exact⟨_,_,iL.told hT.ins yY rfl h3,hR⟩
end
abbrev Fx := List (Nat×sF)
variable {fx:Fx}
def jr (l:List (Nat×Nat)): List V:=l.flatMap fun e=>[.ptr e.1 0,.int .i64 (e.2:Int)]
theorem j6 : ∀(l:List (Nat×Nat)),(jr l).length=l.length*2:=by
 intro l
 induction l with
 |nil=>rfl
 |cons e l I=>rw[jr,gi,aX];show 2+(jr l).length=_;rw[I,bq];omega
theorem LF {a b:List (Nat×Nat)}: jr (a++b)=jr a++jr b:=pL
def nodsA (P:Int→List Nat): Nat→Fx→aE
 |_,[]=>pu True
 |l,e::t=>star [a_ e.1 e.2.pg l (P e.2.pg) (bP e.2.ks),nodsA P (l+1) t]
def dX (fx:Fx): List (Nat×Nat):=(fx.map fun e=>(e.1,e.2.i)).reverse
theorem qT {e:Nat×sF}: dX (e::fx)=dX fx++[(e.1,e.2.i)]:=by simp[dX]
section
variable {told:cE} {v:V} {k:List Nat}
theorem vh {P:Int→List Nat}{e:Nat×sF}{t:Fx}: Sat h (nodsA P l (e::t)::S)↔Sat h (a_ e.1 e.2.pg l (P e.2.pg) (bP e.2.ks)::nodsA P (l+1) t::S):=cK
theorem vi (hT:W told)(hR:rO told N B rv A pg)(cA:EI N B ε){m:Nat}{ky:Ky}(hc:cs[i]?=some (eX m ky))(hm:m<N)(hN:N≤65536)(hp:bH (pg ε m) 204 0 l cs')(RB:∀c∈cs',jQ l c∧c.length≤225)(hl:l+1≤64)
 (s:Sat h (a_ x n (l+1) b cs::A ε::S)):
  Call ⟨Tryz.prog,told⟩ 82 [.ptr x 0,rv,.int .i64 (i:Int)] h fun v h'=>∃y ag,v=.aT [.ptr y 0,.int .i64 0]∧EI N B ag∧Sm N ε ag∧Sat h' (a_ y m l (pg ε m) cs'::a_ x n (l+1) b cs::A ag::S):=by
 refine Call.of_wp (hT.free _ rfl) Tryz.func82 rfl rfl (zK 10 rfl (zc rfl (HY hT hc (by omega) s) ?_))
 rintro v h ⟨rfl,s⟩
 refine zc rfl (Od hT hR cA hm hp RB (by omega) (s.ae [1])) ?_
 rintro v h ⟨y,ag,rfl,I,hs,s⟩
 have s0:=s
 obtain⟨bv,cv,us,s⟩:=bh.1 s
 have s:=s.ae [5,0]
 obtain⟨Gu,wG,Xx,s⟩:=bh.1 s
 have s:=s.ae [0,3]
 refine zk 8 rfl ?_
 have z0:=s
 refine WP.drawn [af,af,af,af,af,af,af,af,af,af,af,af,af,af] rfl (by kernel_rfl) (by kernel_rfl) ?_
 refine zM rfl (aB.uH rfl rfl rfl rfl (ak rfl rfl c8) (rfl) (zM rfl (zM rfl (zN rfl (zF rfl (fG _ _) (zL rfl (s.ld (k:=1) rfl b9 rfl) (zM rfl (zN rfl (zF rfl (fG _ _) (zL rfl (s.ld (k:=0) rfl b9 rfl) (zO rfl (ak rfl rfl (by exact ew (aq (by omega) (by omega)))) ?_)))))))))))
 refine aB.qb rfl rfl rfl rfl (ak rfl rfl aH) (by simp) ?_
 refine zO rfl (mw rfl rfl) ?_
 refine aB.nil ⟨⟨aa,aa,aa,aa,aa,aa,aa,aa,aa,aa,aa,aa,aa,aa,aa⟩,?_⟩
 exact zK 9 rfl (WP.ret ⟨aa,_,rfl,y,ag,rfl,I,hs,s0.ae [0,1]⟩)
theorem Vz : ∃i,Tryz.prog.info? 94=some i∧i.size=2∧i.bytes≤4096 :=
 ⟨_,(show Tryz.prog.info? 94=some ((Tryz.prog.info? 94).getD default) by kernel_rfl),by kernel_rfl,pN (by kernel_rfl)⟩
theorem LG {wv:V}{c:List (Nat×Nat)}(hl:c.length≤200)(s:Sat h (.arr 2 wv (jr c)::S)): ∃I h1 w h2,buildSliceV Tryz.prog h 89 1 [(0,.agg [.ptr x 0,.int .i64 (i:Int)])]=some (I,h1)∧appendV Tryz.prog h1 #[89,89] wv I=some (w,h2)∧Sat h2 (.arr 2 w (jr (c++[(x,i)]))::S):=by
 obtain⟨i1,dy,fy,o8⟩:=Vz
 obtain⟨I,h1,e1,s1⟩:=lR (P:=Tryz.prog) (k:=2) (x:=.agg [.ptr x 0,.int .i64 (i:Int)]) s eo Pf kQ rfl (by decide) (by decide) rfl rfl
 obtain⟨w,h2,e2,s2⟩:=h_ (s1.ae [1,0]) eo dy Pf fy o8 rfl (by decide) (by rw[j6];simp[V.cells];omega)
 have s2:=s2.del 1
 exact⟨I,h1,w,h2,e1,e2,by rw[LF];exact s2⟩
noncomputable def tdL : Code:=eu [1,1,1,1,0,0,0] ((Tryz.f74.body).getD .skip)
theorem S2 (hT:W told)(hR:rO told N B rv A pg)(hN:N≤65536){P:Int→List Nat}(hL:L≤64){g:FuncId}{K:aE}
 (we:∀ {x n l:Nat} {b:List Nat} {ks:List gG} {lo:Ky} {hi:Option Ky} {h:H} {S:List aE},Sep lo hi ks→ks.length≤512→1≤l→l≤64→Sat h (a_ x n l b (bP ks)::K::S) →
   Call ⟨Tryz.prog,told⟩ g (.ptr x 0::caps) h fun v h'=>∃i:Nat,v=.int .i64 (i:Int)∧Ch ks i∧i<ks.length∧Sat h' (a_ x n l b (bP ks)::K::S)):
  ∀(l x n:Nat) (lo:Ky) (hi:Option Ky) (eL eR:List En) (pO:List Nat) (cs:List (List Nat)) (es:List En) (ps:List Nat) (fx:Fx) (wv:V) (ε:bE) (h:H) (E:List (Nat×V)) (S:List aE) (Q:Ex→List (Nat×V)→H→Prop),
  gH F P L r (fx.map (·.2)) l lo hi n eL eR pO→Nv F P l lo hi cs es ps→bH (P n) 204 0 l cs→(fx.map (·.2)≠[]→F l cs)→EI N B ε→pg ε=P→(∀m∈ps,m<N)→fx.length+l=L→(∀e∈fx,Ch e.2.ks e.2.i) →
  Sat h (a_ x n l (P n) cs::.arr 2 wv (jr (dX fx))::nodsA P (l+1) fx::A ε::K::S)→Has E [(0,rv),(2,.fn (.func g) [] caps),(8,.ptr x 0),(10,wv)] →
  (∀E' h' x' n' fQ eT m9 jd iM es' I S3 ag,gH F P L r (I.map (·.2)) 0 fQ eT n' m9 jd iM→jc fQ eT es'→bH (P n') 204 0 0 (es'.map ey)→(I.map (·.2)≠[]→F 0 (es'.map ey))→EI N B ag→Sm N ε ag→(∀e∈I,Ch e.2.ks e.2.i)→m9++es'++jd=eL++es++eR→(iM++[n']).Perm (pO++n::ps)→I.length=L →
   Has E' [(8,.ptr x' 0),(10,S3)]→Sat h' (a_ x' n' 0 (P n') (es'.map ey)::.arr 2 S3 (jr (dX I))::nodsA P 1 I::A ag::K::S)→Q (.exit 0) E' h')→WP ⟨Tryz.prog,told⟩ 56 (.loop tdL) E h Q:=by
 intro l
 induction l with
 |zero =>
  intro x n lo hi eL eR pO cs es ps fx wv ε h E S Q mH hN0 hp hF cA fO oK hlen hCh s hE hq
  obtain⟨rfl,jU,rfl⟩:=hN0
  have s0:=s
  obtain⟨bv,cv,us,s⟩:=bh.1 s
  refine WP.loop (WP.has hE (zK 5 rfl (zY s 0 fG b9 rfl (zC rfl cV (by simp) ?_))))
  exact zk 2 rfl (WP.exit (hq _ _ x n lo hi eL eR pO es fx wv ε mH jU hp hF cA (Sm.refl N ε) hCh rfl (List.Perm.refl _) (by omega) ⟨rfl,rfl,aa⟩ s0))
 |succ l ih =>
  intro x n lo hi eL eR pO cs es ps fx wv ε h E S Q mH hN0 hp hF cA fO oK hlen hCh s hE hq
  obtain⟨ks,rfl,hS,rfl,rfl,Qe⟩:=hN0
  have cU:=hp.fits
  rw[eC] at cU
  have rN:1≤ks.length:=by
   rcases pM ks.length with q|q
   ·exact absurd (ic q) hS.ne
   ·exact q
  have s0:=s
  obtain⟨bv,cv,us,s⟩:=bh.1 s
  refine WP.loop (WP.has hE (zK 5 rfl (zY s 0 fG b9 rfl (zB rfl cV (by simp) ?_))))
  refine zk 3 rfl (WP.block (zK 5 rfl (zY s 0 cN gz rfl (zo rfl (aD rfl rfl rfl (iJ aP s)) ?_))))
  rw[eC]
  refine zC rfl c8 (decide_eq_false (by omega)) ?_
  refine zk 7 rfl (zc rfl (we hS (by omega) (by omega) (by omega) (s0.ae [0,3])) ?_)
  rintro v h ⟨i,rfl,hc,fy,s⟩
  have s:=s.ae [2,0,1,1,0]
  dsimp only[aL,bringA,getA] at s
  obtain⟨kk,yZ⟩:∃kk,ks[i]?=some kk:=⟨_,aG fy⟩
  obtain⟨cs',hN',hF',xq⟩:=Qe i kk yZ
  have rT:=jB yZ
  have ko:(dX fx).length≤200:=by rw[dX,gh,bX];omega
  obtain⟨xv,h1,w,h2,e1,e2,s2⟩:=LG (x:=x) (i:=i) ko s
  refine zk 7 rfl (zo rfl (cQ (r:=.agg [.ptr x 0,.int .i64 (i:Int)]) rfl (by rw[aaA];rfl)) ?_)
  refine au.any rfl rfl rfl (OpR.of (R:=fun v h'=>v=xv∧h'=h1) (ku rfl e1) ⟨rfl,rfl⟩) ?_
  rintro xv h1 ⟨rfl,rfl⟩
  refine au.any rfl rfl rfl (OpR.of (R:=fun v h'=>v=w∧h'=h2) (j_ rfl rfl e2) ⟨rfl,rfl⟩) ?_
  rintro w h2 ⟨rfl,rfl⟩
  have s:=s2.ae [1,2,0,0,0]
  dsimp only[bringA,getA,aL] at s
  refine zk 7 rfl ?_
  have BA:kk∈ks:=aM yZ
  have S4:∀m∈ej kk,m<N:=fun m hm=>oK m (List.mem_flatMap.2 ⟨kk,BA,hm⟩)
  refine zc rfl (vi hT hR cA rT (S4 kk.pg bB) hN (by rw[fO];exact xq) (fun c hc=>⟨(hN'.cells c hc).1,(hN'.cells c hc).2.1⟩) (by omega) s) ?_
  rintro v h ⟨y,ag,rfl,uJ,hs,s⟩
  refine zk 5 rfl (zv (zg rfl (zm rfl (zh rfl (ak rfl rfl aH) (rfl) (zv (zj rfl (WP.skip ?_)))))))
  have adG:pg ag=P:=by rw[←fO];funext m;exact hR.same hs m
  have adH:=mH.down hS hF hp Qe yZ
  rw[fO] at s
  have s:=s.ae [0,2,0,1,0]
  have s:=s.ae [2,2]
  have s:Sat h (nodsA P (l+1) ((x,⟨n,ks,i⟩)::fx)::_):=(vh (e:=(x,⟨n,ks,i⟩)) (t:=fx)).2 s
  have s:=s.ae [1,1,0]
  rw[←qT (e:=(x,⟨n,ks,i⟩))] at s
  refine ih y kk.pg (loK lo ks i) (cZ hi ks i) _ _ _ cs' kk.es kk.ps ((x,⟨n,ks,i⟩)::fx) _ ag _ _ S Q adH hN' xq (fun _=>hF') uJ adG (fun m hm=>S4 m (bA _ hm)) (by rw[bq];omega) (fun e he => ?_) s ⟨rfl,rfl,rfl,rfl,aa⟩ (fun E' h' x' n' fQ adI m9 jd iM es' I S3 lY q1 q2 q3 q4 q5 q6 q7 q8 q9 nf eN s' => ?_)
  ·rcases List.mem_cons.1 he with rfl|he
   ·exact hc
   ·exact hCh e he
  ·refine hq E' h' x' n' fQ adI m9 jd iM es' I S3 lY q1 q2 q3 q4 q5 (hs.trans q6) q7 ?_ ?_ nf eN s'
   ·rw[q8,sG yZ];simp[dA]
   ·refine q9.trans ?_
    rw[vg,sG yZ,lH]
    intro z
    simp only[ej,lJ,lK,fF]
    omega
theorem HZ (hT:W told)(hR:rO told N B rv A pg)(hN:N≤65536){P:Int→List Nat}(hL:L≤64){g:FuncId}{K:aE}
 (we:∀ {x n l:Nat} {b:List Nat} {ks:List gG} {lo:Ky} {hi:Option Ky} {h:H} {S:List aE},Sep lo hi ks→ks.length≤512→1≤l→l≤64→Sat h (a_ x n l b (bP ks)::K::S) →
   Call ⟨Tryz.prog,told⟩ g (.ptr x 0::caps) h fun v h'=>∃i:Nat,v=.int .i64 (i:Int)∧Ch ks i∧i<ks.length∧Sat h' (a_ x n l b (bP ks)::K::S))(hv:Nv F P L lo hi cs es ps)(hp:bH (P r) 204 0 L cs)(cA:EI N B ε)(I:pg ε=P)(hr:r<N)(oK:∀m∈ps,m<N)(js:lo=[])(hhi:hi=none)(s:Sat h (A ε::K::S)):
  Call ⟨Tryz.prog,told⟩ 74 [rv,.int .i64 (r:Int),.fn (.func g) [] caps] h fun v h'=>∃w x n lo hi eL eR pO es' fx ag,v=.aT [w,.int .i64 0]∧gH F P L r (fx.map (·.2)) 0 lo hi n eL eR pO∧jc lo hi es'∧bH (P n) 204 0 0 (es'.map ey)∧(fx.map (·.2)≠[]→F 0 (es'.map ey))∧EI N B ag∧Sm N ε ag∧(∀e∈fx,Ch e.2.ks e.2.i) ∧
   eL++es'++eR=es∧(pO++[n]).Perm (r::ps)∧fx.length=L∧Sat h' (.arr 2 w (jr (dX fx++[(x,0)]))::a_ x n 0 (P n) (es'.map ey)::nodsA P 1 fx::A ag::K::S):=by
 subst js hhi
 refine Call.of_wp (hT.free _ rfl) Tryz.func74 rfl rfl (zK 9 rfl (zc rfl (Od hT hR cA hr (by rw[I];exact hp) (fun c hc=>⟨(hv.cells c hc).1,(hv.cells c hc).2.1⟩) hL s) ?_))
 rintro v h ⟨x,ep,rfl,ou,fK,s⟩
 rw[I] at s
 have jP:pg ep=P:=by rw[←I];funext m;exact hR.same fK m
 refine zk 10 rfl (zC rfl aH (rfl) (zk 8 rfl (WP.block ?_)))
 have s:=((s.mJ (k:=2)).gQ (φ:=True) aa).ae [2,1,0]
 have s:Sat h (a_ x r L (P r) cs::.arr 2 .aR (jr (dX []))::nodsA P (L+1) []::_):=s
 refine S2 hT hR hN (g:=g) (caps:=caps) (Ch:=Ch) hL we L x r [] none [] [] [] cs es ps [] .aR ep _ _ _ _ ⟨rfl,rfl,rfl,rfl,rfl,rfl,rfl⟩ hv hp (fun q=>absurd rfl q) ou jP oK (by simp) (fun e he=>by cases he) s ⟨rfl,rfl,rfl,rfl,aa⟩ fun E' h' x' n' fQ eT m9 jd iM es' fx' S3 ag q1 q2 q3 q4 q5 q6 q7 q8 q9 nf eN s' => ?_
 have s:=s'
 refine WP.has eN ?_
 have s:=s.ae [1]
 obtain⟨xv,h1,w,h2,e1,e2,s2⟩:=LG (x:=x') (i:=0) (by rw[dX,gh,bX];omega) s
 refine zK 4 rfl (zo rfl (cQ (r:=.agg [.ptr x' 0,.int .i64 ((0:Nat):Int)]) rfl (by rw[aaA];rfl)) ?_)
 refine au.any rfl rfl rfl (OpR.of (R:=fun v h'=>v=xv∧h'=h1) (ku rfl e1) ⟨rfl,rfl⟩) ?_
 rintro xv h1 ⟨rfl,rfl⟩
 refine au.any rfl rfl rfl (OpR.of (R:=fun v h'=>v=w∧h'=h2) (j_ rfl rfl e2) ⟨rfl,rfl⟩) ?_
 rintro w h2 ⟨rfl,rfl⟩
 exact zk 3 rfl (WP.ret ⟨aa,_,rfl,w,x',n',fQ,eT,m9,jd,iM,es',fx',ag,rfl,q1,q2,q3,q4,q5,fK.trans q6,q7,by simpa using q8,by simpa using q9,nf,s2⟩)
theorem gH.way {P:Int→List Nat}{k:Ky}: ∀ {fs:List sF} {l:Nat} {lo:Ky} {hi:Option Ky} {n:Nat} {eL eR:List En} {pO:List Nat},gH F P L r fs l lo hi n eL eR pO→(∀f∈fs,Way f.ks k f.i)→Bd lo hi k:=by
 intro fs
 induction fs with
 |nil=>rintro l lo hi n eL eR pO ⟨_,rfl,rfl,_⟩ _;exact⟨by cases k with|nil=>exact nD _|cons x t=>exact pP (ym _ _),fun b I=>by cases I⟩
 |cons f fs ih =>
  rintro l lo hi n eL eR pO ⟨fQ,eT,m9,jd,iM,kk,h1,h2,rfl,rfl,rfl,_⟩ hw
  exact(hw f bB).bd (ih h1 fun g hg=>hw g (bA _ hg))
theorem aa_ (hT:WB told)(hX:cf X (cy kv k)){kb:Nat}(hS:Sep lo hi ks)(hlen:ks.length≤512)(I:1≤l)(iA:l≤64)(s:Sat h (a_ x n l b (bP ks)::star [pt kb (.cells 1 [kv] false),X]::S)):
  Call ⟨Tryz.prog,told⟩ 115 [.ptr x 0,.ptr kb 0] h fun v h'=>∃i:Nat,v=.int .i64 (i:Int)∧Way ks k i∧i<ks.length∧Sat h' (a_ x n l b (bP ks)::star [pt kb (.cells 1 [kv] false),X]::S):=by
 have hW:=hT.w
 have s:=cK.1 (s.ae [1])
 have s:Sat h (pt kb (.cells 1 [kv] false)::X::a_ x n l b (bP ks)::S):=s
 refine Call.of_wp (hW.free _ rfl) Tryz.func115 rfl rfl (zK 7 rfl (zy s 0 bF rfl (zc rfl (SV hT hX hS hlen I iA (s.ae [2,1])) ?_)))
 rintro v h ⟨i,rfl,hw,s⟩
 refine zk 2 rfl (WP.ret ⟨aa,_,rfl,?_⟩)
 have s:=s.ae [2,1,0]
 have s:Sat h (star [pt kb (.cells 1 [kv] false),X]::_):=cK.2 s
 exact⟨i,rfl,hw,hw.lt,s.ae [1]⟩
theorem JO (hT:WB told)(hR:rO told N B rv A pg)(hN:N≤65536){P:Int→List Nat}(hL:L≤64)(hX:cf X (cy kv k))(hv:Nv F P L [] none cs es ps)(hp:bH (P r) 204 0 L cs)(cA:EI N B ε)(fO:pg ε=P)(hr:r<N)(oK:∀m∈ps,m<N)(s:Sat h (A ε::X::S)):
  Call ⟨Tryz.prog,told⟩ 45 [rv,.int .i64 (r:Int),kv] h fun v h'=>∃w x n lo hi eL eR pO es' fx ag,v=.aT [w,.int .i64 0]∧gH F P L r (fx.map (·.2)) 0 lo hi n eL eR pO∧jc lo hi es'∧bH (P n) 204 0 0 (es'.map ey)∧(fx.map (·.2)≠[]→F 0 (es'.map ey))∧EI N B ag∧Sm N ε ag∧Bd lo hi k ∧
   eL++es'++eR=es∧(pO++[n]).Perm (r::ps)∧fx.length=L∧Sat h' (.arr 2 w (jr (dX fx++[(x,0)]))::a_ x n 0 (P n) (es'.map ey)::nodsA P 1 fx::A ag::X::S):=by
 have hW:=hT.w
 have I:=s.aC (k:=1) rfl hX
 refine Call.of_wp (hW.free _ rfl) Tryz.func45 rfl rfl (zg rfl (au.b_ s rfl rfl rfl (eU rfl (by simp only[I.cells.1,kD,lP,I.cells.2];rfl)) ?_))
 intro kb h s
 rw[I.cells.1] at s
 have s:=s.ae [0,1,0]
 have s:Sat h (star [pt kb (.cells 1 [kv] false),X]::_):=cK.2 s
 refine zk 7 rfl (zo rfl (Fz rfl rfl) (zc rfl (HZ hW hR hN (Ch:=fun ks i=>Way ks k i) hL (fun hS hlen uf iA s=>aa_ hT hX hS hlen uf iA s) hv hp cA fO hr oK rfl rfl (s.ae [1])) ?_))
 rintro v h ⟨w,x,n,lo,hi,eL,eR,pO,es',fx,ag,rfl,q1,q2,q3,q4,q5,q6,q7,q8,q9,nf,s⟩
 refine zk 5 rfl (WP.ret ⟨aa,_,rfl,?_⟩)
 have s:=cK.1 (s.ae [4])
 have s:=s.ae [2,2,2,2,1]
 refine⟨w,x,n,lo,hi,eL,eR,pO,es',fx,ag,rfl,q1,q2,q3,q4,q5,q6,q1.way fun f hf => ?_,q8,q9,nf,s.del 5⟩
 obtain⟨e,he,rfl⟩:=List.mem_map.1 hf
 exact q7 e he
end
def fI (es:List En)(k:Ky): Option Ky:=(es.find? fun e=>decide (e.1=k)).map (·.2)
section
variable {k:Ky}
theorem xC (h:∀e∈es,e.1≠k): fI es k=none:=by
 unfold fI
 rw[List.find?_eq_none.2 fun e he=>by simpa using h e he]
 rfl
theorem EM : fI (eL++es) k=(fI eL k).or (fI es k):=by
 unfold fI
 rw[GZ]
 cases eL.find? fun e=>decide (e.1=k)<;>rfl
theorem H6 {e:En}(h:(es.map (·.1)).Nodup)(he:es[i]?=some e)(hk:e.1=k): fI es k=some e.2:=by
 unfold fI
 have:es.find? (fun e=>decide (e.1=k))=some e:=by
  induction es generalizing i with
  |nil=>simp at he
  |cons a t ih =>
   simp only[ik,oC] at h
   rw[List.find?_cons]
   cases i with
   |zero =>
    simp only[jE,aA] at he
    subst he
    simp[hk]
   |succ i =>
    simp only[ow] at he
    have I:a.1≠k:=fun q=>h.1 (by rw[q,←hk];exact oz (aM he))
    simp only[I,yt]
    exact ih h.2 he
 rw[this]
 rfl
theorem A6.none (h:A6 es k i)(hs:jc lo hi es)(hn:sameE es k i=false): fI es k=none:=by
 refine xC fun e he q => ?_
 obtain⟨j,I⟩:=List.mem_iff_getElem?.1 he
 by_cases h1:j<i
 ·have:=h.lo j e I h1
  rw[q] at this
  exact absurd this (mu _)
 ·rcases yh (vo h1) with h2|rfl
  ·obtain⟨d,hd⟩:∃d,es[i]?=some d:=⟨_,aG (by have:=(List.getElem?_eq_some_iff.1 I).1;omega)⟩
   have h3:=h.hi i d hd (aI _)
   have h4:=hs.get hd I h2
   rw[q] at h4
   exact absurd h4 (List.not_lt.2 h3)
  ·simp only[sameE,I,q,C3] at hn
   cases hn
theorem EN (I:∀e∈eL,e.1<k)(h2:∀e∈eR,k<e.1): fI (eL++es++eR) k=fI es k:=by
 rw[EM,EM,xC (es:=eL) (fun e he q=>absurd (q ▸ I e he) (mu _)),xC (es:=eR) (fun e he q=>absurd (q ▸ h2 e he) (mu _))]
 cases fI es k<;>rfl
theorem gH.side {P:Int→List Nat}{fs:List sF}(h:gH F P L r fs l lo hi n eL eR pO)(hb:Bd lo hi k): (∀e∈eL,e.1<k)∧∀e∈eR,k<e.1:=by
 obtain⟨h1,h2⟩:=h.bd
 refine⟨fun e he => ?_,fun e he => ?_⟩
 ·exact Std.lt_of_lt_of_le (h1 e he) hb.1
 ·obtain⟨b,I,qa⟩:=h2 e he
  exact Std.lt_of_lt_of_le (hb.2 b I) qa
theorem EO (h:sameE es k i=true): ∃e,es[i]?=some e∧e.1=k:=by
 unfold sameE at h
 cases q:es[i]? with
 |none=>rw[q] at h;cases h
 |some e=>rw[q] at h;exact⟨e,rfl,pN h⟩
theorem DH (e:En): (ey e).drop (1+(ey e).getD 0 0)=e.2:=by
 simp[ey,Nat.add_comm 1]
theorem jc.nodup (h:jc lo hi es): (es.map (·.1)).Nodup:=by
 have:=h.kK
 rw[MX,List.pairwise_map]
 exact this.imp fun h q=>absurd (q ▸ h) (mu _)
end
section
variable {c:List (Nat×Nat)}
theorem tD (hu:P.underlying t=some (.slice e))(rM:bp P e=some 2)(I:c[j]?=some (x,i))(s:Sat h (.arr 2 w (jr c)::S)):
  ∃id off,indexAddrV P t w (.int .i64 (j:Int))=some (.ptr id off)∧(∀t',isAggT P t'=some false→loadV P h t' (.ptr id off)=some (.ptr x 0))∧∀t',isAggT P t'=some false→loadV P h t' (.ptr id (off+1))=some (.int .i64 (i:Int)):=by
 have IL:=(List.getElem?_eq_some_iff.1 I).1
 have hg:∀ {c:List (Nat×Nat)} {j:Nat},c[j]?=some (x,i)→((jr c).drop (j*2)).take 2=[.ptr x 0,.int .i64 (i:Int)]:=by
  intro c
  induction c with
  |nil=>simp
  |cons a t ih =>
   intro j I
   cases j with
   |zero =>
    simp only[jE,aA] at I
    subst I
    rfl
   |succ j =>
    rw[show jr (a::t)=[.ptr a.1 0,.int .i64 (a.2:Int)]++jr t from rfl,show(j+1)*2=2+j*2 by omega,←vt]
    exact ih I
 obtain⟨id,off,e1,e2⟩:=adg (P:=P) (t:=t) (e:=e) (i:=j) (s.BU (j:=0) rfl (ji _ _ _)) (by rw[j6];omega) (by decide) hu rM
 rw[hg I] at e2
 exact⟨id,off,e1,fun t' ht=>e2 0 _ t' rfl ht,fun t' ht=>e2 1 _ t' rfl ht⟩
end
section
variable {told:cE} {v:V} {k:List Nat}
theorem Za (hT:WB told)(hR:rO told N B rv A pg)(hN:N≤65536){P:Int→List Nat}(hL:L≤64)(hX:cf X (cy kv k))(hk:1≤k.length∧k.length≤96)(hv:Nv F P L [] none cs es ps)(hp:bH (P r) 204 0 L cs)(cA:EI N B ε)(fO:pg ε=P)(hr:r<N)(I:∀m∈ps,m<N)(s:Sat h (A ε::X::S)):
  Call ⟨Tryz.prog,told⟩ 17 [rv,.int .i64 (r:Int),kv] h fun v h'=>∃ag,EI N B ag∧Sm N ε ag∧match fI es k with
   |none=>v=.aT [.aR,.bool false,.int .i64 0]∧Sat h' (A ag::X::S)
   |some val=>∃bv,v=.aT [bv,.bool true,.int .i64 0]∧Sat h' (aU bv val::A ag::X::S):=by
 have hW:=hT.w
 refine Call.of_wp (hW.free _ rfl) Tryz.func17 rfl rfl (zK 10 rfl (zc rfl (wE hW (s.ae [1]) hX) ?_))
 rintro v h' ⟨rfl,rfl⟩
 rw[dB hk]
 refine zo rfl (dZ rfl rfl) (zk 8 rfl (zc rfl (JO hT hR hN hL hX hv hp cA fO hr I s) ?_))
 rintro v h ⟨w,x,n,lo,hi,eL,eR,pO,es',fx,ag,rfl,q1,q2,q3,q4,q5,q6,q7,q8,q9,nf,s⟩
 refine zk 10 rfl (zC rfl aH (rfl) ?_)
 have qd:(dX fx).length=L:=by rw[dX,gh,bX,nf]
 have ko:(dX fx++[(x,0)]).length=L+1:=by rw[aX,qd];rfl
 obtain⟨id,off,e1,e2,_⟩:=tD (P:=Tryz.prog) (j:=L) (x:=x) (i:=0) eo kQ (by rw[ie (by omega),qd,gV];rfl) s
 refine zk 7 rfl (zo rfl (aD rfl rfl rfl (s.fW (j:=0) (n:=L+1) rfl (by rw[j6,ko]) (by decide) eo)) ?_)
 refine zo rfl (ak (r:=.int .i64 (L:Int)) rfl rfl (by rw[show((L:Nat):Int)=((L+1:Nat):Int)-1 by omega];exact ew (aq (by omega) (by omega)))) ?_
 refine zo rfl (bS (r:=.ptr id off) rfl rfl e1) (zf rfl (jb _ _) (zl rfl (e2 _ e_) (zk 6 rfl (zc rfl (wD hT hX q2 (by have:=q3.fits;rw[bX] at this;omega) (s.ae [1,3])) ?_))))
 rintro v h ⟨i,rfl,hl,s⟩
 obtain⟨fK,nc⟩:=q1.side q7
 rw[←q8,EN fK nc]
 cases hq:sameE es' k i with
 |false =>
  rw[hl.none q2 hq]
  exact zk 10 rfl (zo rfl (dZ rfl rfl) (zk 8 rfl (WP.ret ⟨aa,_,rfl,ag,q5,q6,rfl,(s.ae [4,1]).del 4 |>.del 3 |>.del 2⟩)))
 |true =>
  obtain⟨e,he,xp⟩:=EO hq
  rw[H6 q2.nodup he xp]
  obtain⟨c1,c2,c3⟩:=vL q2 he
  refine zk 10 rfl (zo rfl (dZ rfl rfl) (zk 7 rfl (zc rfl (DG hW c1 c2 c3 s) ?_)))
  rintro bv h s
  rw[DH] at s
  refine zc rfl (rP hW s (bj _ _) (by have:=(q2.sz e (aM he)).2.2;omega)) ?_
  intro r h s
  exact zk 4 rfl (WP.ret ⟨aa,_,rfl,ag,q5,q6,r,rfl,(s.ae [0,5,2]).del 6 |>.del 5 |>.del 4 |>.del 3⟩)
end
theorem aba (M:List Nat): ∀N:Nat,(∀j,j<N→bt M j=true)∨∃lo,lo<N∧bt M lo=false∧∀j,j<lo→bt M j=true:=by
 intro N
 induction N with
 |zero=>exact .inl fun j hj=>absurd hj (vp _)
 |succ N I =>
  rcases I with I|⟨lo,h1,h2,h3⟩
  ·cases hb:bt M N with
   |true =>
    refine .inl fun j hj => ?_
    rcases yh (Nat.le_of_lt_succ hj) with q|rfl
    ·exact I j q
    ·exact hb
   |false=>exact .inr ⟨N,vn N,hb,I⟩
  ·exact .inr ⟨lo,by omega,h2,h3⟩
theorem fY.frame {p p':Int→List Nat}(h:fY n R M p)(I:p' 0=p 0)(h1:p' 1=p 1): fY n R M p' :=
 ⟨by rw[I];exact h.head,h.rl,by rw[h1];exact h.marks,h.ml,h.n1,h.n2,h.own,h.hi⟩
section
variable {told:cE} {p:Nat} {v:V}
theorem Cq (hT:W told)(hB:B≤2000)(cA:EI N B ε)(hw:NW N now)(hp:fY N R M (pgG now ε))(ht:jC N M ps)(s:Sat h (GA g a p q r data aN now ε::S)):
  Call ⟨Tryz.prog,told⟩ 100 [.ptr g 0] h fun v h'=>∃ag aF,EI N B ag∧Sm N ε ag∧NW N aF∧aF.length≤now.length+2∧Sat h' (GA g a p q r data aN aF ag::S) ∧
   ((v=.aT [.int .i64 0,.int .i64 7]∧aF=now∧N≤ps.length+2)∨∃(z:Nat) (M':List Nat),v=.aT [.int .i64 (z:Int),.int .i64 0]∧2≤z∧z<N∧z∉ps∧fY N R M' (pgG aF ag)∧jC N M' (z::ps)∧∀m,m≠1→m≠(z:Int)→pgG aF ag m=pgG now ε m):=by
 rcases aba M N with I|⟨lo,I,h2,h3⟩
 ·exact(P_ hT hB cA hw hp I s).mono fun v h' ⟨ag,e,a1,a2,a3⟩=>⟨ag,now,a1,a2,hw,by omega,a3,.inl ⟨e,rfl,vo fun cq=>by
   obtain⟨lo,g1,g2,_⟩:=ht.low cq
   rw[I lo g1] at g2
   cases g2⟩⟩
 ·have h4:=ht.bits lo I
  rw[h2] at h4
  have h5:=of_decide_eq_false h4.symm
  have h6:2≤lo:=by omega
  have h7:lo∉ps:=fun q=>h5 (.inr q)
  have sA:=hp.n2
  have F_:=hp.ml
  refine(SQ hT hB cA hw hp I h2 h3 s).mono fun v h' ⟨ag,aF,e,a1,a2,a3,a4,a5,a6,_,_,a7⟩=>⟨ag,aF,a1,a2,a3,a4,a7,.inr ⟨lo,Gn M lo,e,h6,I,h7,a5,ht.more I h6 h7 fun j => ?_,a6⟩⟩
  rw[Xr (by omega)]
  by_cases hj:j=lo
  ·simp[hj]
  ·simp[hj]
theorem VA (hT:W told)(hB:B≤2000)(cA:EI N B ε)(hw:NW N now)(hp:fY N R M (pgG now ε))(ht:jC N M ps)(s:Sat h (GA g a p q r data aN now ε::S)):
  Call ⟨Tryz.prog,told⟩ 33 [.ptr g 0] h fun v h'=>∃ag aF,EI N B ag∧Sm N ε ag∧NW N aF∧aF.length≤now.length+3∧Sat h' (GA g a p q r data aN aF ag::S) ∧
   ((v=.aT [.int .i64 0,.int .i64 7]∧aF=now∧N≤ps.length+2)∨∃(z:Nat) (M':List Nat),v=.aT [.int .i64 (z:Int),.int .i64 0]∧2≤z∧z<N∧z∉ps∧fY N R M' (pgG aF ag)∧jC N M' (z::ps)∧fA (pgG aF ag z) 204 0 0 []∧∀m,m≠1→m≠(z:Int)→pgG aF ag m=pgG now ε m):=by
 refine Call.of_wp (hT.free _ rfl) Tryz.func33 rfl rfl (zK 8 rfl (zc rfl (Cq hT hB cA hw hp ht s) ?_))
 rintro v h ⟨ep,I,b1,b2,b3,b4,s1,(⟨rfl,rfl,ve⟩|⟨z,M',rfl,c1,c2,c3,c4,c5,c6⟩)⟩
 ·skip
  refine zk 10 rfl (zB rfl aH (by decide) ?_)
  exact zk 8 rfl (WP.ret ⟨aa,_,rfl,ep,_,b1,b2,b3,by omega,s1,.inl ⟨rfl,rfl,ve⟩⟩)
 ·skip
  refine zk 10 rfl (zC rfl aH (rfl) (zk 8 rfl ?_))
  have s:=((s1.mJ (k:=1)).gQ (φ:=True) aa).ae [2,1,0]
  have s:Sat h (GA g a p q r data aN I ep::.arr 1 .aR []::cX [] []::S):=s
  refine zc rfl (mN hT hB b1 b3 c2 (ji _ _ _).s (by decide) (by decide) s) ?_
  rintro v h ⟨iQ,b',rfl,d1,d2,d3,d4,s⟩
  refine zk 3 rfl (WP.ret ⟨aa,_,rfl,?_⟩)
  have WJ:∀m:Int,pgG I iQ m=pgG I ep m:=fun m=>by rw[gA d2]
  refine⟨iQ,_,d1,b2.trans d2,d3,?_,(s.del 2).del 1,.inr ⟨z,M',rfl,c1,c2,c3,c4.frame ?_ ?_,c5,?_,fun m h1 h2 => ?_⟩⟩
  ·have:=ga (i:=(z:Int)) (b:=b') (now:=I);omega
  ·rw[eH,ai (by omega),WJ]
  ·rw[eH,ai (by omega),WJ]
  ·rw[eH,ay rfl];exact d4
  ·rw[eH,ai (fun e=>h2 e.symm),WJ];exact c6 m h1 h2
end
section
variable {f:V→α→aE} {a b:PM}
theorem Cr : ∀ {l:List V} {m:List α} (k:Nat),(each f l m).p a b→(each f (l.take k) (m.take k)).p a b:=by
 intro l
 induction l with
 |nil=>intro m k h;cases m with
  |nil=>simpa using h
  |cons x m=>exact h.elim
 |cons v l I=>intro m k h;cases m with
  |nil=>exact h.elim
  |cons x m=>cases k with
   |zero=>exact aa
   |succ k=>exact⟨h.1,I k h.2⟩
theorem Cs : ∀ {l:List V} {m:List α} (k:Nat),(each f l m).p a b→(each f (l.drop k) (m.drop k)).p a b:=by
 intro l
 induction l with
 |nil=>intro m k h;cases m with
  |nil=>simpa using h
  |cons x m=>exact h.elim
 |cons v l I=>intro m k h;cases m with
  |nil=>exact h.elim
  |cons x m=>cases k with
   |zero=>exact h
   |succ k=>exact I k h.2
end
def adJ (v:V)(b:Nat): V:=match v with
 |.sl id off _ _=>.sl id off b (.exact b)
 |v=>v
def adK (v:V)(a:Nat): V:=match v with
 |.sl id off n (.exact c)=>.sl id (off+a*1) (n-a) (.exact (c-a))
 |.sl id off n (.rest _ alt)=>.sl id (off+a*1) (n-a) (.rest 1 (cond (Nat.beq a 0) alt (cond (Nat.blt a n) (off+a*1) off)))
 |v=>v
section
variable {v:V} {cs:List V}
theorem xD {b:Nat}(hm:xx (T.get h.tr) 1 v cs)(hb:b≤cs.length)(h1:1≤b)(hu:P.underlying t=some (.slice e))(I:bp P e=some 1): sliceV P h t v none (some b) (some b)=some (adJ v b):=by
 rcases hm.2 with⟨rfl,rfl⟩|⟨id,off,n,cap,N,row,rfl,hg,q3,q4,q5,q6⟩
 ·simp at hb;omega
 ·have hl:cs.length=n:=by rw[←q5,cH,fc];omega
  cases cap with
  |exact c =>
   have q6:n≤c:=q6
   simp only[sliceV,hu,I,fR]
   rw[show(Nat.ble 0 b&&Nat.ble b b&&Nat.ble b c)=true by simp;omega,ah,fH (by omega),aV,nC,eS,iW]
   rfl
  |rest a alt =>
   have q6:a=1:=q6
   simp only[sliceV,hu,I,fR]
   rw[show(Nat.beq a 1&&Nat.ble 1 1)=true by simp[q6],ah,show(Nat.ble 0 b&&Nat.ble b b&&(Nat.ble b n||Nat.ble b (fU h id off 1))&&Nat.blt 0 n)=true by simp[fS];omega,ah,fH (by omega),aV,nC,eS,iW]
   rfl
theorem JP (hm:xx (T.get h.tr) 1 v cs)(ha:a<cs.length)(hu:P.underlying t=some (.slice e))(I:bp P e=some 1): sliceV P h t v (some a) none none=some (adK v a):=by
 rcases hm.2 with⟨rfl,rfl⟩|⟨id,off,n,cap,N,row,rfl,hg,q3,q4,q5,q6⟩
 ·simp at ha
 ·have hl:cs.length=n:=by rw[←q5,cH,fc];omega
  cases cap with
  |exact c =>
   have q6:n≤c:=q6
   simp only[sliceV,hu,I,fR,dD]
   rw[show(Nat.ble a n&&Nat.ble n c)=true by simp;omega,ah,fH (by omega),aV]
   rfl
  |rest z alt =>
   have q6:z=1:=q6
   simp only[sliceV,hu,I,fR,dD]
   rw[show(Nat.beq z 1&&Nat.ble 1 1)=true by simp[q6],ah,show(Nat.ble a n&&(Nat.ble n n||Nat.ble n (fU h id off 1)))=true by simp;omega,ah]
   rfl
end
section
variable {told:cE} {v:V}
theorem LH (k:Nat)(s:Sat h (cX us cs::S)): Sat h (cX (us.take k) (cs.take k)::cX us cs::S) :=
 (s.dup (aJ.yX _ _)).dQ fun _ _ h=>Cr k h
theorem LI (k:Nat)(s:Sat h (cX us cs::S)): Sat h (cX (us.drop k) (cs.drop k)::cX us cs::S) :=
 (s.dup (aJ.yX _ _)).dQ fun _ _ h=>Cs k h
theorem VB (hT:W told)(hX:wB X 1 cv us)(hc:cs[i]?=some c)(I:jQ l c)(hl:l≤64)(gy:c.length≤225)(s:Sat h (pt x (.cells 4 (uL n l bv cv) false)::X::cX us cs::S)):
  Call ⟨Tryz.prog,told⟩ 117 [.ptr x 0,.int .i64 (i:Int)] h fun r h'=>Sat h' (oP r (gp l c)::pt x (.cells 4 (uL n l bv cv) false)::X::cX us cs::S):=by
 have s:=s.ae [1,1]
 obtain⟨u,id,off,e1,e2,hui,s⟩:=xB (P:=Tryz.prog) hX hc aP dH bF s
 have s:=s.ae [3,0,0,0]
 have hv:=s.aC (k:=3) rfl (bj _ _)
 refine Call.of_wp (hT.free _ rfl) Tryz.func117 rfl rfl (zK 9 rfl (zY s 0 fG b9 rfl ?_))
 by_cases h0:l=0
 ·subst h0
  have I:1≤c.length∧1+c.getD 0 0≤c.length:=I
  have m7:c[0]?=some (c.getD 0 0):=by grind
  obtain⟨lD,bo,e3,e4⟩:=fg hv m7
  have oV:gp 0 c=(c.take (1+c.getD 0 0)).drop 1:=by rw[gp,ay rfl,lM,sV]
  generalize c.getD 0 0=z at I m7 e3 e4 oV
  have hz:z<256:=hv.1 z (aM m7)
  refine zC rfl cV (by simp) ?_
  refine zk 4 rfl ?_
  have z0:=s
  refine WP.drawn [af,af,af,af,af,af,af,af,af,af,af,af,af,af,af,af,af,af,af] rfl (by kernel_rfl) (by kernel_rfl) ?_
  refine zM rfl (zN rfl (zF rfl (cN _ _) (zL rfl (s.ld (k:=0) rfl gz rfl) (zM rfl (zO rfl (bS (r:=.ptr id off) rfl rfl e1) (zL rfl e2 (zM rfl (zN rfl (zF rfl (cN _ _) (zL rfl (s.ld (k:=0) rfl gz rfl) (zM rfl (zO rfl (bS (r:=.ptr id off) rfl rfl e1) (zL rfl e2 (zO rfl (bS (r:=.ptr lD bo) rfl rfl e3) (zL rfl e4 (zO rfl (ak (r:=.int .u8 ((1+z:Nat):Int)) rfl rfl (by rw[show((1+z:Nat):Int)=1+(z:Int) by omega];exact aQ (vX (by omega) (by omega)))) ?_))))))))))))))))
  refine zO rfl (bO (p:=some (.int .i64 1)) (q:=some (.int .u8 ((1+z:Nat):Int))) (m:=none) (p':=some 1) (q':=some (1+z)) (m':=none) rfl rfl rfl rfl (by rfl) (by rw[bT (by omega)];rfl) rfl (fE hv (by omega) (by omega)).1) ?_
  refine zA rfl ?_
  refine aB.nil ⟨⟨aa,aa,aa,aa,aa,aa,aa,aa,aa,aa,aa,aa,aa,aa,aa,aa,aa,aa,aa,aa⟩,?_⟩
  refine WP.ret ⟨aa,_,rfl,?_⟩
  have s:=(s.ae [3]).dQ (qS (a:=1) (b:=1+z) (by omega) (by omega))
  rw[←oV] at s
  exact s
 ·have I:4≤c.length:=by rw[jQ,ai h0] at I;exact I
  have oV:gp l c=(c.take c.length).drop 4:=by rw[gp,ai h0,mo]
  refine zB rfl cV (by simp;omega) ?_
  refine zk 6 rfl (zY s 0 cN gz rfl (zm rfl (zo rfl (bS (r:=.ptr id off) rfl rfl e1) (zl rfl e2 (zo rfl (bO (p:=some (.int .i64 4)) (q:=none) (m:=none) (p':=some 4) (q':=none) (m':=none) rfl rfl rfl rfl (by rfl) rfl rfl (hU hv I).1) ?_)))))
  refine zk 2 rfl (WP.ret ⟨aa,_,rfl,?_⟩)
  have s:=(s.ae [3]).dQ (qS (a:=4) (b:=c.length) I (aI _))
  rw[←oV] at s
  exact s
end
def wyA (w:V)(c:List (Nat×Nat)): aE:=.xs fun o:Nat×Cap×Nat×List V=>.an (.ro o.1 (.cells o.2.2.1 o.2.2.2 false))
 (.pu (w=.sl o.1 0 c.length o.2.1∧o.2.2.2.length=o.2.2.1∧c.length*2≤o.2.2.1∧o.2.2.2.take (c.length*2)=jr c∧1≤c.length∧match o.2.1 with|.exact q=>c.length≤q|.rest z _=>z=2))
section
variable {c:List (Nat×Nat)} {b:Nat}
theorem JQ (hc:1≤c.length)(s:Sat h (.arr 2 w (jr c)::S)): Sat h (wyA w c::S) :=
 s.tZ.dQ fun m r h=>by
  obtain⟨_|⟨id,n,cap,N,rest⟩,h⟩:=h
  ·have:=dn List.length h.2.2
   rw[j6] at this
   simp at this
   omega
  ·obtain⟨h1,h2,h3,h4,I,h6,h7⟩:=h
   rw[j6] at h4
   have:n=c.length:=by omega
   subst this
   refine⟨(id,cap,N,jr c++rest),h1,h3,by rw[aX];exact I,by rw[j6] at I;show c.length*2≤N;omega,by rw[←j6,gq rfl],hc,?_⟩
   cases cap with
   |exact q=>exact h7.2
   |rest z alt=>exact h7.1
theorem DI (s:Sat h (wyA w c::S)): ∃id cap N row,w=.sl id 0 c.length cap∧row.length=N∧c.length*2≤N∧row.take (c.length*2)=jr c∧1≤c.length∧(match cap with|.exact q=>c.length≤q|.rest z _=>z=2)∧Sat h (ro id (.cells N row false)::S):=by
 obtain⟨o,s⟩:=jv.1 s
 obtain⟨_,_,_,_,_,q1,I,q3,q4,q5,q6⟩:=s.at (k:=0) rfl
 exact⟨o.1,o.2.1,o.2.2.1,o.2.2.2,q1,I,q3,q4,q5,q6,s.dQ fun _ _ h=>h.1⟩
theorem Ct (s:Sat h (wyA w c::S))(hu:P.underlying t=some (.slice e)): lenV P h t w=some (.int .i64 (c.length:Int)):=by
 obtain⟨id,cap,N,row,rfl,_⟩:=DI s
 simp only[lenV,hu]
theorem Oe : ∀ {c:List (Nat×Nat)} {j:Nat},c[j]?=some (x,i)→((jr c).drop (j*2)).take 2=[.ptr x 0,.int .i64 (i:Int)]:=by
 intro c
 induction c with
 |nil=>simp
 |cons a t ih =>
  intro j I
  cases j with
  |zero =>
   simp only[jE,aA] at I
   subst I
   rfl
  |succ j =>
   rw[show jr (a::t)=[.ptr a.1 0,.int .i64 (a.2:Int)]++jr t from rfl,show(j+1)*2=2+j*2 by omega,←vt]
   exact ih I
theorem JR (hu:P.underlying t=some (.slice e))(I:bp P e=some 2)(hj:c[j]?=some (x,i))(s:Sat h (wyA w c::S)):
  ∃id off,indexAddrV P t w (.int .i64 (j:Int))=some (.ptr id off)∧(∀t',isAggT P t'=some false→loadV P h t' (.ptr id off)=some (.ptr x 0))∧(isAggT P e=some true→loadV P h e (.ptr id off)=some (.agg [.ptr x 0,.int .i64 (i:Int)])):=by
 have IL:=(List.getElem?_eq_some_iff.1 hj).1
 obtain⟨id,cap,N,row,rfl,q1,q2,q3,q4,q5,s⟩:=DI s
 have hr:=s.aap (k:=0) rfl
 have hd:(row.drop (j*2)).take 2=[.ptr x 0,.int .i64 (i:Int)]:=by
  rw[←Oe hj,←q3,lM,q_,yn (by omega)]
 refine⟨id,j*2,?_,fun t' ht=>D1 ht hr ?_,fun ht => ?_⟩
 ·simp only[indexAddrV,hu,I,gU]
  rw[show(decide ((0:Int)≤(j:Int))&&decide ((j:Int)<(c.length:Int)))=true by simp;omega,ah,fh]
 ·rw[gF]
  have:=dn (fun l=>l[0]?) hd
  simpa[ig,fb] using this
 ·simp only[loadV,ht,I]
  rw[qx hr q1 (by omega),hd]
  rfl
def slHd (v:V)(b:Nat): V:=match v with
 |.sl id off _ (.exact q)=>.sl id off b (.exact q)
 |.sl id off _ (.rest _ alt)=>.sl id off b (.rest 2 alt)
 |v=>v
theorem Sat.H7 (s:Sat h S)(I:getA S j=some (wyA w c)): ∃id cap,w=.sl id 0 c.length cap∧1≤c.length∧match cap with|.exact q=>c.length≤q|.rest z _=>z=2:=by
 obtain⟨_,_,_,_,o,_,q1,q2,q3,q4,q5,q6⟩:=s.at I
 exact⟨o.1,o.2.1,q1,q5,q6⟩
theorem Sat.AA (s:Sat h S)(I:getA S j=some (wyA w c))(hu:P.underlying t=some (.slice e)): lenV P h t w=some (.int .i64 (c.length:Int)):=by
 obtain⟨id,cap,rfl,_⟩:=s.H7 I
 simp only[lenV,hu]
theorem Sat.AB (s:Sat h S)(hj:getA S j=some (wyA w c))(hu:P.underlying t=some (.slice e))(I:bp P e=some 2)(hb:b≤c.length): sliceV P h t w none (some b) none=some (slHd w b):=by
 obtain⟨id,cap,rfl,_,q5⟩:=s.H7 hj
 cases cap with
 |exact q =>
  have q5:c.length≤q:=q5
  simp only[sliceV,hu,I,fR,dD]
  rw[show(Nat.ble 0 b&&Nat.ble b q)=true by simp;omega,ah,nC,eS,iW,iW]
  cases Nat.beq q 0<;>rfl
 |rest z alt =>
  have q5:z=2:=q5
  simp only[sliceV,hu,I,fR,dD]
  rw[show(Nat.beq z 2&&Nat.ble 1 2)=true by simp[q5],ah,show(Nat.ble 0 b&&(Nat.ble b c.length||Nat.ble b (fU h id 0 2)))=true by simp;omega,ah]
  simp[slHd]
theorem LJ (h1:1≤b)(hb:b≤c.length)(s:Sat h (wyA w c::S)): Sat h (wyA (slHd w b) (c.take b)::S):=by
 obtain⟨id,cap,N,row,rfl,q1,q2,q3,q4,q5,s⟩:=DI s
 have hl:(c.take b).length=b:=by rw[cH];omega
 have ht:jr (c.take b)=(jr c).take (b*2):=by
  have:jr c=jr (c.take b)++jr (c.drop b):=by rw[←LF,jG]
  rw[this,gq (by rw[j6,hl])]
 have key:∀I,(match I with|.exact q=>b≤q|.rest z _=>z=2)→Sat h (wyA (.sl id 0 b I) (c.take b)::S):=fun I hc=>s.dQ fun m r h=>by
  refine⟨(id,I,N,row),h,by rw[hl],q1,by rw[hl];show b*2≤N;omega,?_,by rw[hl];exact h1,?_⟩
  ·rw[hl,ht,←q3,q_,yn (by omega)]
  ·rw[hl];exact hc
 cases cap with
 |exact q=>exact key (.exact q) (by have q5:c.length≤q:=q5;show b≤q;omega)
 |rest z alt=>exact key (.rest 2 alt) rfl
theorem Sat.acy (s:Sat h S)(I:getA S j=some (wyA w c)): w.beq w=true∧(slHd w b).beq (slHd w b)=true:=by
 obtain⟨id,cap,rfl,_⟩:=s.H7 I
 refine⟨z8 _ _ _ _,?_⟩
 cases cap<;>exact z8 _ _ _ _
end
theorem Qf : jz (List.replicate 512 0)=0:=by rw[jz,ay rfl]
def fresh (n m f:Nat): bE:=(Pl.fresh f,(Lg.fresh,Dk.fresh n m))
theorem LK {m:Nat}(k:Int): (Dk.fresh n m).at k=List.replicate 512 0:=by
 rw[Dk.at,show lookL k (Dk.fresh n m).now=none from rfl]
 simp only[Dk.fresh]
 cases I:(List.replicate n (none:Option (List Nat)))[k.toNat]? with
 |none=>rfl
 |some o =>
  have:=xY (aM I)
  subst this
  rfl
theorem I9 {m f:Nat}(k:Int): pgA (fresh n m f) k=List.replicate 512 0:=by
 rw[pz (by rfl)]
 exact LK k
theorem LL {f:Nat}{x:Fm}(h:(Pl.fresh f).aj[i]?=some x): x=fX:=xY (aM h)
theorem EI.fresh {m f:Nat}(hn:n≤65536)(hm:m≤16777216)(hf:1≤f)(IZ:f≤1024): EI n 1 (fresh n m f):=by
 have AL:∀x∈(Pl.fresh f).aj,x=fX:=fun x I=>xY I
 have hlen:(Pl.fresh f).aj.length=f:=gd
 refine⟨⟨⟨⟨(show 0<(Pl.fresh f).aj.length by rw[hlen];omega),(show(Pl.fresh f).aj.length≤1024 by rw[hlen];exact IZ),fun e he=>(by cases he),fun x I=>by rw[AL x I];decide,fun x I=>by rw[AL x I];decide⟩,Lg.K1,?_⟩,fun x I=>by rw[AL x I];rfl,⟨vu,fun k i hk=>(by cases hk)⟩⟩,⟨?_,vu,fun k i hk=>(by cases hk),fun i x I=>.inl (by rw[LL I];decide),fun k hk=>(by cases hk),vu⟩,⟨rfl,aI _,(show(1:Nat)+0≤1*1048600 by decide)⟩,?_⟩
 ·exact⟨(show(-1:Int)<4294967296 by decide),gu _,hm,fun e he=>(by cases he),fun i b hb=>(by have h1:some b=none:=xY (aM hb);cases h1),aI _,(show(List.replicate n (none:Option (List Nat))).length≤65536 by rw[gd];exact hn)⟩
 ·exact⟨rfl,(show(-1:Int)<0 by decide),gd,fun k hk=>(by cases hk),vu,fun k h0 h1=>by show jz ((Dk.fresh n m).at k)=0;rw[LK];exact Qf⟩
 ·have e:jN (Pl.fresh f).aj=0:=by
   rw[jN,List.count_eq_zero]
   intro hh
   obtain⟨x,I,hc⟩:=List.mem_map.1 hh
   rw[AL x I] at hc
   cases hc
  show([]:List Wr).length+jN (Pl.fresh f).aj≤_
  rw[e];decide
theorem Zb (h:n<128): (digits 9 n).length=1:=by
 grind[digits]
theorem Of (h:n<16384): (digits 9 n).length≤2:=by
 grind[digits]
theorem EP {c:fL}(I:c.bM.toNat<16384)(h2:c.pos.toNat<16384)(h3:c.b.length<16384): (o_ c).length≤7+c.b.length:=by
 grind[Of,o_]
theorem Zc {pg:Int}{now:List Nat}{l:List fL}(hr:AY pg was now i l)(hn:now.length=512)(hp:pg.toNat<16384): ∀j,(∀k,i≤k→k<j→was[k]?=now[k]?)→j≤520→(l.flatMap o_).length≤520-max i j:=by
 induction hr with
 |done i h=>simp
 |skip i l h he hr ih =>
  grind
 |take i e l h1 h2 h3 h4 hr ih =>
  intro j hj hj2
  have kg:j≤i:=vo fun I=>h3 (hj i (aI _) I)
  have h5:=ih (e+8) h4 (by omega)
  have hl:((now.take e).drop i).length=e-i:=by grind
  have h6:=EP (c:=⟨pg,i,false,(now.take e).drop i⟩) hp (by grind) (by grind)
  rw[gi,aX]
  simp only[hl] at h6
  omega
theorem Zd {pg:Int}{now:List Nat}{c:List fL}(hr:R9 pg was now c)(I:now.length=512)(hp:pg.toNat<16384): (c.flatMap o_).length≤520:=by
 obtain⟨l,hl,rfl⟩:=hr
 have:=Zc hl I hp 0 (fun k _ h=>absurd h (by omega)) (by omega)
 grind[EP]
theorem mL.few {l:List Int}{e:Int}{cs:List fL}(hr:mL now l ε e cs ag)(hn:NW N now): (∀n∈l,n.toNat<16384)→(cs.flatMap o_).length≤520*l.length:=by
 induction hr with
 |nil ε=>simp
 |err n l ε e b ag hr he=>simp
 |part n l ε was b ag c e cs I hr hb AX hc gy ht ih =>
  intro hl
  have h1:=Zd hc (jK (hn.look hb).1) (hl n bB)
  grind
 |whole n l ε was b ag e cs I hr hb AX ht ih =>
  have p_:=jK (hn.look hb).1
  grind[EP]
theorem ER {e:Int}{cs:List fL}{kd:Int}(hr:mL now (gC now) ε e cs ag)(I:NW N now)(hL:now.length≤L)(hN:N≤16384)(ht:tx<16384): (gR kd tx 0 0 [] cs).length≤520*L+20:=by
 have h2:=Of ht
 have h4:=Zb (n:=([]:List Nat).length) (by decide)
 have h5:=MN cs.length
 have h6:=hr.few I fun n hm=>by have:=I.keys n (uh.1 hm);omega
 have hl:(gC now).length≤L:=by
  rw[gC,(iT _).length_eq,bX];exact hL
 have hl:=CQ 520 hl
 simp only[gR,aX,bq,cj] at h4 ⊢
 omega
theorem AD (K M:Nat): oa fun x=>x.2.log.length=K∧x.2.room=M:=by
 refine⟨fun x n h => ?_,fun x n b h => ?_⟩
 ·unfold cO Dk.jj
  split
  ·exact h
  ·split
   ·exact h
   ·split
    ·exact h
    ·split<;>first|exact h|exact h
 ·unfold Dk.eE
  split
  ·exact h
  ·split
   ·exact h
   ·split<;>exact h
def xE (K M:Nat)(ε:bE): Prop:=ε.2.2.log.length≤K∧ε.2.2.room=M
theorem xE.sm {M:Nat}(h:xE K M ε)(hs:Sm N ε ag): xE K M ag:=by
 have:=hs.2.1 _ ((AD ε.2.2.log.length ε.2.2.room).adu N) ⟨rfl,rfl⟩
 exact⟨by rw[this.1];exact h.1,by rw[this.2];exact h.2⟩
theorem uk.fits {M:Nat}{e:Int}{cl:Bool}(hr:uk ε now kd tx 0 0 [] 0 bk e cl ag)(cA:EI N B ε)(hB:B≤1000)(hw:NW N now)(hL:now.length≤L)(hN:N≤2999)(hL2:L≤2000)(h1:1≤kd)(h2:kd≤7)(F5:tx<16384)(hd:xE K M ε)(hf:K+520*L+28≤M):
  cl=true∧e=0∧xE (K+520*L+28) M ag:=by
 have Fw:∀n∈gC now,0≤n∧n<N:=fun n hq=>hw.keys n (uh.1 hq)
 obtain⟨hK,hM⟩:=hd
 have Qg:=cA.done hB hw (by omega) (by omega) hr
 cases hr with
 |arg hh=>omega
 |dead _ _ _ hd=>omega
 |sP e c ag _ _ _ _ hc KU=>exact absurd (hc.ec cA.ec cA.ok Fw).2.2 KU
 |app c I _ _ _ _ hc KU =>
  have D4:=ER (kd:=kd) hc hw hL (by omega) F5
  have ae6:520*L+20≤1048576:=by omega
  have hP:=(AD ε.2.2.log.length ε.2.2.room).ch hc ⟨rfl,rfl⟩
  grind[nU,iH,Ag]
 |put c I e kC _ _ _ _ hc ha hp =>
  rcases Qg with⟨gy,_⟩|⟨_,he,_⟩
  ·grind
  ·refine⟨rfl,he,?_⟩
   have D4:=ER (kd:=kd) hc hw hL (by omega) F5
   have hP:=(AD ε.2.2.log.length ε.2.2.room).ch hc ⟨rfl,rfl⟩
   rcases nU I.2 kd tx 0 0 [] c with⟨e,he,AP,hq⟩|⟨_,xj,hq⟩|⟨_,hb,J5,cU,xj,hq⟩
   ·grind
   ·grind
   ·rw[hq] at hp
    have jt:=(AD (ε.2.2.log.length+(iH I.2.1 kd tx 0 0 [] c).length) ε.2.2.room).pt hp ⟨by grind,hP.2⟩
    have h3:(iH I.2.1 kd tx 0 0 [] c).length≤520*L+28:=by rw[iH,Ag];omega
    exact⟨by omega,by omega⟩
section
variable {x:V}
theorem Og (s:Sat h S)(hu:P.underlying t=some (.slice e))(hz:zeroT P e=some z)(hk:bp P e=some 1)(hl:z.cells.length=1)(hx:x.cells=[x])(hy:y.cells=[y])(I:storable x=true)(hsy:storable y=true):
  ∃v h',buildSliceV P h t 2 [(0,x),(1,y)]=some (v,h')∧Sat h' (.arr 1 v [x,y]::S):=by
 refine⟨.sl h.next 0 2 (.exact 2),newRow h [x,y],?_,?_⟩
 ·obtain⟨z0,yy⟩:∃z0,z.cells=[z0]:=by
   match hq:z.cells with
   |[]=>rw[hq] at hl;cases hl
   |[z0]=>exact⟨z0,rfl⟩
   |_::_::_=>rw[hq] at hl;simp at hl
  simp only[buildSliceV,hu,hk,hz,yy]
  rw[show(Nat.beq [z0].length 1&&Nat.ble (2*1) 65536&&Nat.ble 1 1)=true by rfl,ah]
  have e1:repeatL [z0] 2=[z0,z0]:=by simp[repeatL]
  simp only[fillV,e1,hx,hy,bq,cj]
  show cond ([x,y].all storable) (some (V.sl h.next 0 2 (Cap.exact 2),newRow h [x,y])) none=_
  simp only[kD,lP,I,hsy]
  rfl
 ·refine(s.new _).dQ fun m r hm=>⟨by simp[I,hsy],.inr ⟨h.next,2,.exact 2,2,[],rfl,?_,rfl,rfl,rfl,rfl,aI _⟩⟩
  have hm:m h.next=some (.cells 2 [x,y] false):=hm
  rw[hm];rfl
theorem Oh {S:Prop}: cf (pu S) (cy .aR []):=fun _ _ _=>.inl ⟨fun _ h=>(by cases h),.inl ⟨.inl rfl,rfl⟩⟩
end
theorem AE : buildV Tryz.prog 47 [(0,.int .i64 (kd:Int))]=some (.agg (qc (kd:Int) 0 0 0 .aR .aR)):=by rw[Up];rfl
section
variable {told:cE} {M p:Nat} {v x op:V} {l:List Nat}
theorem fA.done (hw:NW N now)(hd:∀m,pgA ag m=match lookL m now with|some b=>eO b bk|none=>pgA ε m){i:Int}(I:fA (pgG now ε i) kd link extra cs): fA (pgA ag i) kd link extra cs:=by
 rw[hd]
 unfold pgG at I
 cases hq:lookL i now with
 |none=>rw[hq] at I;exact I
 |some b =>
  rw[hq] at I
  obtain⟨k1,k2,_⟩:=Ci (n:=bk) I.len
  exact I.tail k2 k1
theorem fY.done {M:List Nat}(hw:NW N now)(hd:∀m,pgA ag m=match lookL m now with|some b=>eO b bk|none=>pgA ε m)(I:fY n R M (pgG now ε)): fY n R M (pgA ag):=by
 obtain⟨ex,h0⟩:=I.head
 obtain⟨kd,lk,tW,h1⟩:=I.marks
 exact⟨⟨ex,h0.done hw hd⟩,I.rl,⟨kd,lk,tW,h1.done hw hd⟩,I.ml,I.n1,I.n2,I.own,I.hi⟩
theorem S5 (hT:W told)(jU:kR ε)(I:dz ε+65536≤268435456)(U8:ε.2.1.b=ε.2.2.log)(fJ:ε.2.1.base+ε.2.1.b.length+1048584≤1099511627776)(hNm:N≤65536)(hw:NW N now)(s:Sat h (GA g a p q r data aN now ε::S)):
  Call ⟨Tryz.prog,told⟩ 18 [.ptr g 0,.agg (qc (kd:Int) 0 0 0 .aR .aR)] h fun v h'=>∃(bk:Nat) (e:Int) (cl:Bool) (ag:bE),uk ε now kd 0 0 0 [] 0 bk e cl ag∧v=.aT [.int .u64 (bk:Int),.int .i64 e] ∧
   Sat h' (iI g a now cl::SA a p q r (cond cl .b8 (.ptr g 0)) data aN ag::S):=by
 have s:=cK.1 s
 have s:Sat h (iI g a now false::gD a p q r (.ptr g 0) data aN::gn r p q ε.1::dm q p ε.2.1::bZ p ε.2.2::S):=s
 have s:=(s.gQ (φ:=True) aa).mJ (k:=4)
 refine(YW (sR:=0) (data:=[]) hT (s.ae [2,2,2,2,2,1,0]) Oh rfl jU I (fun e he=>jK (hw.good e he).1) (by have:=hw.len;omega) (fun n hn=>by have:=hw.keys n hn;omega) (by decide) (by decide) (by decide) (gu _) U8 fJ).mono ?_
 rintro v h ⟨bk,e,cl,ag,hr,rfl,s⟩
 have s:Sat h (iI g a now cl::gD a p q r (cond cl .b8 (.ptr g 0)) data aN::gn r p q ag.1::dm q p ag.2.1::bZ p ag.2.2::pu True::S):=s
 have s2:Sat h (SA a p q r (cond cl .b8 (.ptr g 0)) data aN ag::iI g a now cl::pu True::S):=cK.2 (s.ae [1,1,1,1,0])
 exact⟨bk,e,cl,ag,hr,rfl,(s2.ae [1]).del 2⟩
theorem I_ (hT:W told)(hB:B≤900)(I:EI N B ε)(hw:NW N now)(s:Sat h (GA g a p q r data aN now ε::S)):
  Call ⟨Tryz.prog,told⟩ 18 [.ptr g 0,.agg (qc (kd:Int) 0 0 0 .aR .aR)] h fun v h'=>∃(bk:Nat) (e:Int) (cl:Bool) (ag:bE),uk ε now kd 0 0 0 [] 0 bk e cl ag∧v=.aT [.int .u64 (bk:Int),.int .i64 e] ∧
   Sat h' (iI g a now cl::SA a p q r (cond cl .b8 (.ptr g 0)) data aN ag::S):=by
 have Ap:=I.dz
 have fJ:=I.el.size
 exact S5 hT I.ok (by omega) I.el.log (by omega) I.many hw s
theorem Ja (hT:W told)(hB:B≤900)(I:EI N B ε)(hw:NW N now)(hL:now.length≤L)(hN:N≤2999)(hL2:L≤2000)(h1:1≤kd)(h2:kd≤7)(hd:xE K M ε)(hf:K+520*L+28≤M)(s:Sat h (GA g a p q r data aN now ε::S)):
  Call ⟨Tryz.prog,told⟩ 18 [.ptr g 0,.agg (qc (kd:Int) 0 0 0 .aR .aR)] h fun v h'=>∃(bk:Nat) (ag:bE),v=.aT [.int .u64 (bk:Int),.int .i64 0]∧EI N (B+2) ag∧(∀m,pgA ag m=match lookL m now with|some b=>eO b bk|none=>pgA ε m)∧xE (K+520*L+28) M ag ∧
   Sat h' (iI g a now true::SA a p q r .b8 data aN ag::S)∧uk ε now kd 0 0 0 [] 0 bk 0 true ag:=by
 refine(I_ hT hB I hw s).mono ?_
 rintro v h ⟨bk,e,cl,ag,hr,rfl,s⟩
 obtain⟨rfl,rfl,adL⟩:=hr.fits I (by omega) hw hL hN hL2 h1 h2 (by decide) hd hf
 rcases I.done (by omega) hw (by omega) (by omega) hr with⟨gy,_⟩|⟨_,_,uJ,fO⟩
 ·cases gy
 ·exact⟨bk,ag,rfl,uJ,fO,adL,s,hr⟩
noncomputable def mdL : Code:=eu [1,1,1,0,1,0,0] ((Tryz.f98.body).getD .skip)
theorem S6 (hT:W told)(cU:26+4*cs.length+tot cs≤512)(sQ:us.length=cs.length): ∀(m i:Nat) (v:V) (b:List Nat) (h:H) (E:List (Nat×V)) (Q:Ex→List (Nat×V)→H→Prop),i+m=cs.length→fA b kd link extra (cs.take i) →
  Sat h (aU v b::each (fun v c=>.cg v c) us cs::.arr 1 cv us::S)→Has E [(7,v),(22,cv),(23,.int .i64 (cs.length:Int)),(24,.int .i64 (i:Int))] →
  (∀v' b' E' h',fA b' kd link extra cs→Has E' [(7,v')]→Sat h' (aU v' b'::each (fun v c=>.cg v c) us cs::.arr 1 cv us::S)→Q (.exit 0) E' h')→WP ⟨Tryz.prog,told⟩ 38 (.loop mdL) E h Q:=by
 intro m
 induction m with
 |zero =>
  intro i v b h E Q hi hp s hE hq
  refine WP.loop (WP.has hE (zg rfl (zC rfl aO (by simp;omega) ?_)))
  exact zk 3 rfl (WP.exit (hq v b _ _ (by rw[show cs.take i=cs from gT (by omega)] at hp;exact hp) ⟨rfl,aa⟩ s))
 |succ m ih =>
  intro i v b h E Q hi hp s hE hq
  have I:cs[i]?=some (cs[i]'(by omega)):=aG _
  generalize (cs[i]'(by omega))=c at I
  obtain⟨u,hu,s⟩:=ND (fun _ _=>aJ.cg _ _) (s.ae [1]) I
  dsimp only[aL,bringA] at s
  obtain⟨id,off,e1,e2⟩:=jL (P:=Tryz.prog) s (k:=3) (i:=i) (c:=u) rfl hu aP dH
  have K6:=iP I
  have IN:=kY (cs:=cs) (i:=i+1)
  have hlen:(cs.take i).length=i:=by rw[cH];omega
  have uK:cs.take (i+1)=cs.take i++[c]:=by rw[qV,I];rfl
  refine WP.loop (WP.has hE (zg rfl (zB rfl aO (by simp;omega) ?_)))
  refine zk 5 rfl (WP.block (zK 3 rfl (zo rfl (bS (r:=.ptr id off) rfl rfl e1) (zl rfl (e2 _ bF) (zk 7 rfl ?_)))))
  have LB:=NT (told:=told) hT (s.ae [2,0]) (aZ _ _) (bj _ _) hp (by rw[hlen];omega)
  rw[hlen] at LB
  refine zc rfl (LB) ?_
  rintro r h ⟨u',b',rfl,p_,s⟩
  rw[←uK] at p_
  refine zk 4 rfl (zv (zr rfl (zb rfl (by exact aQ (aq (by omega) (by omega))) ?_)))
  refine zm rfl (zv ?_)
  exact ih (i+1) u' b' _ _ Q (by omega) p_ (((s.ae [0,2,2]).del 4).del 3) ⟨rfl,rfl,rfl,rfl,aa⟩ hq
theorem Oi (hT:W told)(hkd:kd≤255)(hlk:lk<4294967296)(I:26+4*cs.length+tot cs≤512)(sQ:us.length=cs.length)(s:Sat h (each (fun v c=>.cg v c) us cs::.arr 1 cv us::S)):
  Call ⟨Tryz.prog,told⟩ 98 [.int .i64 (kd:Int),.int .i64 (lk:Int),cv] h fun r h'=>∃b',fA b' kd lk 0 cs∧Sat h' (aU r b'::S):=by
 refine Call.of_wp (hT.free _ rfl) Tryz.func98 rfl rfl (zK 7 rfl (zc rfl (K8 (kd:=kd) hT s hkd) ?_))
 rintro r h ⟨u,b,rfl,hb,s⟩
 refine zk 10 rfl (zc rfl (NS (lk:=lk) (ex:=0) hT s (aZ _ _) hb hlk (by decide)) ?_)
 rintro r h ⟨u2,b2,rfl,qa,s⟩
 refine zk 9 rfl (zo rfl (aD rfl rfl rfl (s.fW (n:=cs.length) (j:=3) rfl (by rw[sQ,dV]) (by decide) aP)) ?_)
 refine zk 2 rfl (WP.block ?_)
 refine S6 hT I sQ cs.length 0 u2 b2 _ _ _ (by omega) qa (s.ae [0,1,1]) ⟨rfl,rfl,rfl,rfl,aa⟩ (fun v' b' E' h' xq hE s' => ?_)
 have s:=s'
 exact WP.has hE (zK 5 rfl (WP.ret ⟨aa,_,rfl,b',xq,((s.del 3).del 2).del 1⟩))
theorem Qh (hT:W told)(s:Sat h (X::S))(hX:cf X (cy v b))(hl:b.length=512)(hg:cF b=false): Call ⟨Tryz.prog,told⟩ 160 [v] h fun r h'=>r=.aT [.aR,.int .i64 4]∧Sat h' (X::S):=by
 refine Call.of_wp (hT.free _ rfl) KV rfl rfl (zK 8 rfl (zc rfl (ue hT s hX (by omega)) ?_))
 rintro r h' ⟨s,(⟨I,rfl⟩|⟨_,rfl⟩)⟩
 ·rw[hg] at I;cases I
 refine zk 3 rfl ?_
 refine au.b_ s rfl rfl rfl (cu jo) (fun p4 h s => ?_)
 refine zS rfl (s.gX (j:=0) rfl aS rfl rfl) (fun h s => ?_)
 refine zk 6 rfl (zB rfl aH (by decide) ?_)
 exact zk 8 rfl (WP.ret ⟨aa,_,rfl,rfl,s.drop⟩)
theorem S7 (hT:W told)(hR:rO told N B rv A pg)(cA:EI N B ε)(hN:1≤N)(hl:(pg ε 0).length=512)(hg:cF (pg ε 0)=false)(s:Sat h (A ε::S)):
  Call ⟨Tryz.prog,told⟩ 163 [rv] h fun v h'=>∃ag,v=.aT [.aR,.int .i64 0,.bool false,.int .i64 0]∧EI N B ag∧Sm N ε ag∧Sat h' (A ag::S):=by
 obtain⟨ty,u,f,rfl,hm,ju⟩:=hR.iface
 refine Call.of_wp (hT.free _ rfl) Tryz.func163 rfl rfl (zK 10 rfl (au.any rfl rfl rfl (OpR.invoke rfl rfl rfl hm rfl (ju cA (by decide) (by omega) s)) ?_))
 rintro v h ⟨u,ag,rfl,I,hs,s⟩
 refine zk 10 rfl (zC rfl aH (rfl) (zk 6 rfl (zc rfl (Qh hT s (aZ _ _) hl hg) ?_)))
 rintro v h ⟨rfl,s⟩
 refine zk 8 rfl (WP.drawn [af,af,af,af,af,af,af,af,some (0,2),some (0,2),some (0,2),af,af,af,af,af,af,af,af,af,af,af] rfl (by kernel_rfl) (by kernel_rfl) ?_)
 refine zM rfl (aB.uH rfl rfl rfl rfl (ak rfl rfl aH) (by decide) ?_)
 refine zM rfl (aB.no (e:=false) rfl rfl rfl rfl (aB.no (e:=false) rfl rfl rfl rfl (aB.no (e:=false) rfl rfl rfl rfl (zO rfl (mw rfl rfl) (zM rfl (aB.no (e:=false) rfl rfl rfl rfl (aB.no (e:=false) rfl rfl rfl rfl (aB.no (e:=false) rfl rfl rfl rfl (aB.no (e:=true) rfl rfl rfl rfl (aB.no (e:=true) rfl rfl rfl rfl (aB.no (e:=false) rfl rfl rfl rfl (zO rfl (mw rfl rfl) (zM rfl (aB.no (e:=false) rfl rfl rfl rfl (aB.no (e:=false) rfl rfl rfl rfl (aB.no (e:=false) rfl rfl rfl rfl (aB.no (e:=false) rfl rfl rfl rfl (aB.no (e:=false) rfl rfl rfl rfl (zO rfl (mw rfl rfl) ?_)))))))))))))))))))
 refine aB.nil ⟨⟨aa,aa,aa,aa,aa,aa,aa,aa,fun _ _=>.inl rfl,fun _ _=>.inl rfl,fun _ _=>.inl rfl,aa,aa,aa,aa,aa,aa,aa,aa,aa,aa,aa,aa⟩,?_⟩
 exact zK 8 rfl (WP.ret ⟨aa,_,rfl,ag,rfl,I,hs,s.drop⟩)
theorem Jy (hT:W told)(hR:rO told N B rv A pg)(cA:EI N B ε)(hN:1≤N)(hl:(pg ε 0).length=512)(hg:cF (pg ε 0)=false)(s:Sat h (A ε::S)):
  Call ⟨Tryz.prog,told⟩ 95 [rv] h fun v h'=>∃ag,v=.aT [.bool false,.int .i64 0]∧EI N B ag∧Sm N ε ag∧Sat h' (A ag::S):=by
 refine Call.of_wp (hT.free _ rfl) Tryz.func95 rfl rfl (zK 8 rfl (zc rfl (S7 hT hR cA hN hl hg s) ?_))
 rintro v h ⟨ag,rfl,I,hs,s⟩
 exact zk 17 rfl (WP.ret ⟨aa,_,rfl,ag,rfl,I,hs,s⟩)
end
def A8 : List Nat:=((List.replicate 375 0).set 0 1).set 0 3
theorem S8 : bt A8 j=decide (j<2):=by
 unfold bt A8
 by_cases h:j/8=0
 ·have e:(((List.replicate 375 0).set 0 1).set 0 3).getD (j/8) 0=3:=by rw[h];decide +kernel
  have k:∀i,i<8→(3:Nat).testBit i=decide (i<2):=by decide
  rw[e,k _ (by omega)]
  by_cases I:j<2
  ·rw[dB I,dB (by omega)]
  ·rw[er I,er (by omega)]
 ·have e:(((List.replicate 375 0).set 0 1).set 0 3).getD (j/8) 0=0:=by
   rw[vj,lG (by omega),lG (by omega),List.getElem?_replicate]
   split<;>rfl
  rw[e,Nat.zero_testBit,er (by omega)]
def GDn (N B kd:Nat)(ε ag:bE): Prop:=∃(ep:bE) (now:List (Int×List Nat)) (bk:Nat),EI N B ep∧Sm N ε ep∧NW N now∧(∀i:Int,2≤i→lookL i now=none)∧uk ep now kd 0 0 0 [] 0 bk 0 true ag
section
variable {told:cE} {M p:Nat}
theorem S9 (hB:B≤800)(cA:EI N B ε)(hN:4≤N)(Gi:N≤2999)(hz:(pgA ε 0).length=512)(hg:cF (pgA ε 0)=false)(hd:xE K M ε)(hf:K+1068≤M)(s:Sat h (SA a p q r .b8 data aN ε::S)):
  ∃v h2,(∃N0,∀n,N0≤n→toldDefer CB n 32 [.ptr a 0] h=some (v,h2))∧(v=.int .i64 0∧∃ag,EI N (B+2) ag∧fY N (List.replicate 64 0) A8 (pgA ag)∧xE (K+1068) M ag∧Sat h2 (SA a p q r .b8 data aN ag::S)∧GDn N B 1 ε ag):=by
 have I:=W.base
 refine toldDefer_do (C:=CB) Ll rfl rfl (of_decide_eq_true (by kernel_rfl)) ?_
 refine WPd.seq (WPd.of_wp rfl (zr rfl (za rfl (zv (WPd.seq (WPd.of_wp rfl (zr rfl (zm rfl (zo rfl (mI rfl (mki_of uj rfl)) (zc rfl (Jy I (EG I (by omega)) cA (by omega) hz hg s) ?_))))))))))
 rintro v h ⟨ep,rfl,ou,fK,s⟩
 have hd:=hd.sm fK
 have s:Sat h (gD a p q r .b8 data aN::gn r p q ep.1::dm q p ep.2.1::bZ p ep.2.2::S):=cK.1 s
 refine zk 5 rfl (zv (WPd.seq (WPd.of_wp rfl (WP.block (zg rfl (zm rfl (zh rfl (ak rfl rfl aH) (rfl) (za rfl (zv (zj rfl (zg rfl (zk 2 rfl (zv (zj rfl (WP.skip (WPd.seq (WPd.of_wp rfl (zr rfl (zm rfl (zc rfl (Va I s) ?_))))))))))))))))))))
 rintro v h' ⟨rfl,rfl⟩
 refine zc rfl (Et I (s.ae [3])) ?_
 rintro v h' ⟨rfl,rfl⟩
 rw[ou.ec.dk.bG]
 refine za rfl (zv (WPd.seq (WPd.of_wp rfl (zr rfl (zm rfl (zc rfl (Gm I (n:=N) (by omega) (by omega)) ?_))))))
 rintro v h' ⟨rfl,rfl⟩
 refine za rfl (zv (WPd.seq (WPd.of_wp rfl (zr rfl (zm rfl (zc rfl (IS I s) ?_))))))
 rintro v h ⟨g,rfl,s⟩
 refine zk 5 rfl (zv (WPd.seq (WPd.seq (WPd.of_wp rfl (zr rfl (zm rfl (zh rfl (ak rfl rfl aH) (rfl) (zv (WPd.of_wp rfl (zj rfl (WP.skip (WPd.seq (WPd.defer rfl rfl rfl rfl rfl rfl rfl rfl rfl rfl rfl rfl (WPd.seq (WPd.seq (WPd.of_wp rfl (zr rfl (zk 2 rfl (zb rfl (by exact aQ (aq (by omega) (by omega))) ?_)))))))))))))))))))
 refine zC rfl aO (by simp;omega) ?_
 have s:Sat h (GA g a p q r data aN [] ep::S):=cK.2 s
 refine zv (WPd.of_wp rfl (zj rfl (WP.skip (WPd.seq (WPd.seq (WPd.of_wp rfl (WP.drawn [some (0,5),some (0,4),af,af,af,af,af,af] rfl (by kernel_rfl) (by kernel_rfl) ?_)))))))
 refine zM rfl (zM rfl (aB.any rfl rfl rfl rfl (OpR.call rfl rfl rfl rfl (Lp I s)) ?_))
 intro mv h s
 refine aB.any rfl rfl rfl rfl (OpR.JJ rfl s rfl rfl rfl rfl (by decide)) ?_
 intro zbv h s
 have s:=s.eW
 have h64:(List.replicate 64 0).length=64:=gd
 have hm:=(s.aC (k:=1) rfl (bj _ _)).cells
 have hzc:=(s.aC (k:=0) rfl (bj _ _)).cells
 obtain⟨cv,h1,e1,s1⟩:=Og (P:=Tryz.prog) (x:=mv) (y:=zbv) s aP lq dH rfl hm.1 hzc.1 hm.2 hzc.2
 refine aB.any rfl rfl rfl rfl (OpR.of (R:=fun v h'=>v=cv∧h'=h1) (ku rfl e1) ⟨rfl,rfl⟩) ?_
 rintro cv h ⟨rfl,rfl⟩
 have s:=(s1.ae [2,1]).two (C:=each (fun v c=>.cg v c) [mv,zbv] [jk,List.replicate 64 0]) (aJ.cg _ _) (aJ.cg _ _) fun a b q1 q2=>⟨q1,q2,aa⟩
 generalize hR:List.replicate 64 0=R at s h64
 refine aB.any rfl rfl rfl rfl (OpR.call rfl rfl rfl rfl (Oi (kd:=201) (lk:=N) I (by decide) (by omega) (by simp only[tot,jk,bq,cj,h64];decide) rfl s)) ?_
 rintro u h ⟨b0,m7,s⟩
 refine aB.any rfl rfl rfl rfl (OpR.call rfl rfl rfl rfl (P9 (i:=0) I (by omega) ou (NW.nil N) (by omega) (s.ae [1,0]) (aZ _ _) m7)) ?_
 rintro v h ⟨iQ,rfl,sH,nc,Xu,s⟩
 have hd:=hd.sm nc
 refine zA rfl ?_
 refine aB.nil ⟨⟨fun _ _=>.inr ⟨rfl,⟨_,bV rfl⟩,bg _ rfl⟩,fun _ _=>.inr ⟨rfl,⟨_,bV rfl⟩,bg _ rfl⟩,aa,aa,aa,aa,aa,aa,aa⟩,?_⟩
 refine WPd.seq (WPd.of_wp rfl (zr rfl (zm rfl (zh rfl (ak rfl rfl aH) (rfl) (zv (WPd.of_wp rfl (zj rfl (WP.skip (WPd.seq (WPd.seq (WPd.of_wp rfl (zr rfl (za rfl (zv (WPd.of_wp rfl (WP.block (WP.loop (zw (zg rfl (zk 2 rfl (zt rfl (ak rfl rfl aO) (by decide) ?_)))))))))))))))))))))
 refine zv (zi rfl (WP.skip (zw (WP.block (zg rfl (au.any rfl rfl rfl (OpR.JJ rfl s rfl rfl rfl rfl (by decide)) ?_))))))
 intro mk h s
 have VC:(List.replicate 375 0).length=375:=gd
 have yy:(List.replicate 375 0)[0]?=some 0:=by decide +kernel
 have F_:A8.length=375:=by unfold A8;rw[cI,cI,VC]
 have S_:A8=((List.replicate 375 0).set 0 1).set 0 3:=rfl
 have I7:∀j,bt A8 j=decide (j<2):=fun j=>S8
 generalize A8=M0 at F_ S_ I7 ⊢
 generalize List.replicate 375 0=Z at s VC yy S_
 obtain⟨id,off,e2,e3⟩:=fg (s.buf (k:=0) rfl).view yy
 obtain⟨xA,sI,e4,h4,e5,s2⟩:=qv s (i:=0) (b:=1) (by omega) (by decide)
 have ee:V.ptr id off=V.ptr xA sI:=by rw[e2] at e4;exact bW e4
 rw[←ee] at e5
 refine zk 8 rfl (WP.block (WP.loop (zg rfl (zB rfl aO (by decide) ?_))))
 refine zk 5 rfl (WP.block (zK 8 rfl (zo rfl (ak (r:=.int .i64 0) rfl rfl (by kernel_rfl)) ?_)))
 refine zm rfl (zb rfl (by exact ew (aq (by omega) (by omega))) ?_)
 refine zB rfl c8 (by decide) ?_
 refine zk 2 rfl (WP.drawn [af,af,af,af,af,af,af,af,af,af,af,af] rfl (by kernel_rfl) (by kernel_rfl) ?_)
 refine zM rfl (zM rfl (zO rfl (ak (r:=.int .i64 0) rfl rfl (by kernel_rfl)) ?_))
 refine zO rfl (ak (r:=.int .i64 0) rfl rfl (by kernel_rfl)) ?_
 refine zO rfl (bS (r:=.ptr id off) rfl rfl e2) (zL rfl e3 (zM rfl (zO rfl (ak (r:=.int .i64 0) rfl rfl (by kernel_rfl)) ?_)))
 refine zO rfl (ak (r:=.int .u8 1) rfl rfl (by kernel_rfl)) ?_
 refine zO rfl (ak (r:=.int .u8 1) rfl rfl (by kernel_rfl)) ?_
 refine zO rfl (bS (r:=.ptr id off) rfl rfl e2) (aB.mg rfl rfl rfl (OpR.yH rfl rfl rfl (⟨h4,e5,s2⟩)) ?_)
 rintro w h ⟨rfl,s⟩
 refine aB.nil ⟨⟨aa,aa,aa,aa,aa,aa,aa,aa,aa,aa,aa,aa,aa⟩,?_⟩
 have DU:(Z.set 0 1)[0]?=some 1:=jF (by omega)
 have uf:(Z.set 0 1).length=375:=by rw[cI,VC]
 obtain⟨id5,VD,e6,e7⟩:=fg (s.buf (k:=0) rfl).view DU
 obtain⟨id6,adM,e8,h7,e9,s3⟩:=qv s (i:=0) (b:=3) (by omega) (by decide)
 have ee:V.ptr id5 VD=V.ptr id6 adM:=by rw[e6] at e8;exact bW e8
 rw[←ee] at e9
 refine zr rfl (zb rfl (by exact aQ (aq (by omega) (by omega))) ?_)
 refine zm rfl (zv (WP.loop (zg rfl (zt rfl (ak rfl rfl aO) (by decide) ?_))))
 refine zk 5 rfl (WP.block (zK 8 rfl (zo rfl (ak (r:=.int .i64 0) rfl rfl (by kernel_rfl)) ?_)))
 refine zm rfl (zb rfl (by exact ew (aq (by omega) (by omega))) ?_)
 refine zB rfl c8 (by decide) ?_
 refine zk 2 rfl (WP.drawn [af,af,af,af,af,af,af,af,af,af,af,af] rfl (by kernel_rfl) (by kernel_rfl) ?_)
 refine zM rfl (zM rfl (zO rfl (ak (r:=.int .i64 1) rfl rfl (by kernel_rfl)) ?_))
 refine zO rfl (ak (r:=.int .i64 0) rfl rfl (by kernel_rfl)) ?_
 refine zO rfl (bS (r:=.ptr id5 VD) rfl rfl e6) (zL rfl e7 (zM rfl (zO rfl (ak (r:=.int .i64 1) rfl rfl (by kernel_rfl)) ?_)))
 refine zO rfl (ak (r:=.int .u8 2) rfl rfl (by kernel_rfl)) ?_
 refine zO rfl (ak (r:=.int .u8 3) rfl rfl (by kernel_rfl)) ?_
 refine zO rfl (bS (r:=.ptr id5 VD) rfl rfl e6) (aB.mg rfl rfl rfl (OpR.yH rfl rfl rfl (⟨h7,e9,s3⟩)) ?_)
 rintro w h ⟨rfl,s⟩
 refine aB.nil ⟨⟨aa,aa,aa,aa,aa,aa,aa,aa,aa,aa,aa,aa,aa⟩,?_⟩
 rw[←S_] at s
 refine zr rfl (zb rfl (by exact aQ (aq (by omega) (by omega))) ?_)
 refine zm rfl (zv (WP.loop (zg rfl (zh rfl (ak rfl rfl aO) (by decide) ?_))))
 refine zk 3 rfl (WP.exit (zK 5 rfl ?_))
 have s:=s.eW
 have sS:=(s.aC (k:=0) rfl (bj _ _)).cells
 obtain⟨wG,h8,e10,s4⟩:=lR (P:=Tryz.prog) (k:=1) (x:=mk) s aP lq dH rfl (by decide) (by decide) (by rw[sS.1];rfl) (by rw[sS.1];simp only[kD,lP,sS.2];rfl)
 rw[sS.1] at s4
 refine au.any rfl rfl rfl (OpR.of (R:=fun v h'=>v=wG∧h'=h8) (ku rfl e10) ⟨rfl,rfl⟩) ?_
 rintro wG h ⟨rfl,rfl⟩
 have s:=(s4.ae [1]).dQ (B:=each (fun v c=>.cg v c) [mk] [M0]) fun a b q=>⟨q,aa⟩
 dsimp only[aL,bringA] at s
 refine zc rfl (Oi (kd:=202) (lk:=0) I (by decide) (by decide) (by simp only[tot,bq,cj,F_];decide) rfl s) ?_
 rintro u h ⟨b1,lT,s⟩
 refine zc rfl (P9 (i:=1) I (by omega) sH Xu (by omega) (s.ae [1,0]) (aZ _ _) lT) ?_
 rintro v h ⟨kC,rfl,Ea,wC,y_,s⟩
 dsimp only[aL,bringA] at s
 have hd:=hd.sm wC
 refine za rfl (zv (zg rfl (zm rfl (zh rfl (ak rfl rfl aH) (rfl) (zv (zj rfl (WP.skip (zr rfl (zm rfl (zb rfl (by exact aQ (aq (by omega) (by omega))) ?_))))))))))
 refine zk 2 rfl (WP.loop (zK 5 rfl (zC rfl aO (by decide) ?_)))
 refine zk 2 rfl (WP.exit (WPd.seq (WPd.of_wp rfl (zK 2 rfl (zo rfl (cQ rfl (AE (kd:=1))) (zc rfl (Ja (kd:=1) (L:=2) I (by omega) Ea y_ (cY ga (Nat.succ_le_succ ga)) (by omega) (by decide) (by decide) (by decide) hd hf s) ?_))))))
 rintro v h ⟨bk,qB,rfl,aeC,fO,Sr,s,N5⟩
 have gm:fY N R M0 (pgG (cD ((1:Nat):Int) b1 (cD ((0:Nat):Int) b0 [])) kC):=by
  refine⟨⟨0,?_⟩,h64,⟨202,0,0,?_⟩,F_,by omega,by omega,fun j hj=>by rw[I7,dB hj],fun j hj=>by rw[I7,er (by omega)]⟩
  ·rw[eH,ai (by decide),eH,ay (by decide)];exact m7
  ·rw[eH,ay (by decide)];exact lT
 refine zk 4 rfl (zv (WPd.seq (WPd.of_wp rfl (zr rfl (zk 2 rfl (zv (WPd.of_wp rfl (WP.ret ?_))))))))
 have s:=s.ae [1]
 have s:=cK.1 s
 have s:=s.ae [4]
 obtain⟨v2,h2,Rl,rfl,s⟩:=PI I s
 have s:=s.ae [1,1,1,1]
 have s:Sat h2 (SA a p q r .b8 data aN qB::_):=cK.2 s
 have hdn:tN 20=none:=I.free _ rfl
 exact⟨aa,h2,_,MQ (C:=CB) hdn Tryz.func20 rfl rfl Rl,z_ rfl,rfl,qB,aeC,gm.done y_ fO,Sr,((s.del 3).del 2).del 1,kC,_,bk,Ea,(fK.trans nc).trans wC,y_,fun i hi=>by rw[o6,ai (by omega),o6,ai (by omega)];rfl,N5⟩
end
section
variable {told:cE} {v x:V} {l:List Nat}
theorem VE (s:Sat h (.arr 1 v (gB l)::S))(hl:l.length≤1048576):
  ∃I h1 w h2,buildSliceV Tryz.prog h 25 1 [(0,.int .i64 (k:Int))]=some (I,h1)∧appendV Tryz.prog h1 #[25,25] v I=some (w,h2)∧Sat h2 (.arr 1 w (gB (l++[k]))::S):=by
 obtain⟨I,h1,e1,s1⟩:=lR (P:=Tryz.prog) (k:=1) (x:=.int .i64 (k:Int)) s gP Rw nY rfl (by decide) (by decide) rfl rfl
 obtain⟨i1,dy,fy,o8⟩:=KO
 obtain⟨w,h2,e2,s2⟩:=h_ (s1.ae [1,0]) gP dy Rw fy (by omega) rfl (by decide) (by simp only[wY,V.cells,bq,cj];omega)
 refine⟨I,h1,w,h2,e1,e2,?_⟩
 have e:gB (l++[k])=gB l++[.int .i64 (k:Int)]:=by simp[gB]
 rw[e]
 exact s2.del 1
end
section
variable {v c x:V} {cs:List V}
theorem sK (s:Sat h (.arr 1 v cs::S))(hi:i<cs.length)(hx:x.cells=[x])(eD:storable x=true)(hu:P.underlying t=some (.slice te))(rM:bp P te=some 1):
  ∃id off h',indexAddrV P t v (.int .i64 (i:Int))=some (.ptr id off)∧jR P h te (.ptr id off) x=some h'∧Sat h' (.arr 1 v (cs.set i x)::S):=by
 have eZ:cs≠[]:=fun e=>by rw[e] at hi;simp at hi
 have I:=s.Pp (j:=0) rfl
 obtain⟨id,m,cap,M,rest,rfl,hl,hM,s1,hc⟩:=s.Yr eZ
 rw[dV] at hl
 obtain⟨h',e1,e2⟩:=s1.jS (P:=P) (t:=te) (k:=0) (off:=i) (v:=x) rfl rM (by rw[aX,hM]) (by omega) hx eD
 refine⟨id,i,h',?_,e1,hc h' (cs.set i x) S (cI) ?_ ?_⟩
 ·simp only[indexAddrV,hu,rM,gU]
  rw[show(decide ((0:Int)≤(i:Int))&&decide ((i:Int)<(m:Int)))=true by simp;omega,ah]
  simp
 ·rw[oA] at I ⊢
  intro y hy
  rcases mj hy with hy|rfl
  ·exact I y hy
  ·exact eD
 ·have e3:(cs++rest).set i x=cs.set i x++rest:=List.set_append_left _ _ hi
  dsimp only[setA] at e2
  rw[e3] at e2
  exact e2
end
section
variable {P:Int→List Nat}
theorem Nv.adN (hN:Nv F P l lo hi cs es ps)(I:486<cB cs)(h2:cB cs≤if l=0 then 715 else 590): ∃k,lZ cs (min 2 (l+1)) k:=by
 have hc:=hN.cells
 cases l with
 |zero=>exact Vk (fun c h=>by have:=(hc c h).2.1;omega) I h2
 |succ l =>
  have e:min 2 (l+1+1)=2:=by omega
  rw[e]
  rw[ai (by omega)] at h2
  exact La (fun c h=>by have:=(hc c h).2.2 (by omega);omega) I (by omega)
theorem lZ.parts (h:lZ cs (min 2 (l+1)) k): ∃c,cs[k]?=some c∧(∀Z,cS Z l (cs.take k))∧(∀Z,cS Z l (rgtC l (cs.drop k)))∧cB (cs.take k)≤486∧cB (rgtC l (cs.drop k))≤486∧1≤k∧k<cs.length:=by
 have hk:=h.k2
 have uf:=h.l1
 have iA:=h.l2
 have I:=h.s2
 obtain⟨c,t,hd⟩:∃c t,cs.drop k=c::t:=by
  cases q:cs.drop k with
  |nil=>have:=dn List.length q;rw[fc,cj] at this;omega
  |cons c t=>exact⟨c,t,rfl⟩
 have hlen:(cs.drop k).length=cs.length-k:=fc
 refine⟨cs[k],aG hk,fun Z => ?_,fun Z => ?_,h.s1,?_,h.k1,hk⟩
 ·unfold cS
  split
  ·exact CL (by rw[cH];have:=h.k1;omega)
  ·rw[cH];exact .inl (by omega)
 ·unfold cS rgtC
  split
  ·rw[hd];simp
  ·rw[hd] at hlen ⊢
   simp only[bq] at hlen ⊢
   exact .inl (by omega)
 ·unfold rgtC
  split
  ·exact I
  ·rw[hd] at I ⊢
   simp only[cB,tot,ik,yp,bq,cH] at I ⊢
   omega
end
def lam (L:Nat)(cs:List (List Nat)): Nat:=if L=0 then 486 else 374*L+cB cs
theorem bH.uniq {k' lk' e e':Nat}(h:bH b k lk e cs)(h':bH b k' lk' e' cs'): cs=cs':=by
 have hl:cs.length=cs'.length:=by rw[←h.fZ,←h'.fZ]
 apply ny 
 intro i
 cases hc:cs[i]? with
 |none=>rw[MY] at hc;rw[nm (by omega)]
 |some c =>
  have hi:=(List.getElem?_eq_some_iff.1 hc).1
  have I:cs'[i]?=some (cs'[i]'(by omega)):=aG _
  rw[I]
  obtain⟨_,_,s2,s3⟩:=h.slot i c hc
  obtain⟨_,_,r2,r3⟩:=h'.slot i _ I
  congr 1
  apply ny
  intro j
  by_cases hj:j<c.length
  ·rw[←s3 j hj,←r3 j (by omega)]
  ·rw[nm (by omega),nm (by omega)]
theorem VF {P:Int→List Nat}{m z:Nat}(hN:Nv (cS Z) P l [] none cs es ps)(h1:1≤k)(hc:cs[k]?=some c)(uI:cS Z l (cs.take k))(IZ:cS Z l (rgtC l (cs.drop k)))
 (uM:bH (P' m) 204 0 l (cs.take k))(AZ:bH (P' z) 204 0 l (rgtC l (cs.drop k)))(I:∀q∈ps,P' (q:Nat)=P q)(hm:m<4294967296)(hz:z<4294967296):
  ∃nR nT,ps=nR++nT∧Nv (cS Z) P' (l+1) [] none [eX m [],eX z (gp l c)] es (m::(nR++z::nT)):=by
 obtain⟨jA,fP,nR,nT,rfl,rfl,q1,q2,q3,_,q5,q6⟩:=hN.cut h1 hc
 exact⟨nR,nT,rfl,Nv.two (q1.frame fun q hq=>I q (gI _ hq)) uI uM (q2.frame fun q hq=>I q (lF _ hq)) IZ AZ q3 ⟨q5,q6⟩ hm hz⟩
section
variable {told:cE} {Xy Xz gv v1 vz:V} {vs:List V} {c':List Nat} {ds t:List (List Nat)}
theorem Jb {v:V}{b d:Nat}(I:a≤b)(hb:b≤d)(hc:d≤c.length)(hl:1≤c.length): cf (oP v c) (oP (slR3 v a b d) ((c.take b).drop a)):=fun _ _ h=>ViewM.slice3 h I hb hc hl
theorem ES (s:Sat h (oP u c'::cX vs (c::t)::S)): Sat h (cX (vs.set 0 u) (c'::t)::S) :=
 s.two (aJ.cg _ _) (aJ.yX _ _) fun m r a b=>by
  cases vs with
  |nil=>exact b.elim
  |cons z vs=>exact⟨a,b.2⟩
theorem LM {b d:Nat}{v:V}{l:List Nat}(I:View h v l)(hb:b≤d)(hc:d≤l.length)(hl:1≤l.length): sliceV Tryz.prog h 29 v none (some b) (some d)=some (slR3 v 0 b d):=by
 rw[←tL (h:=h) I (gu b) hb hc hl]
 rcases I.2 with⟨_,rfl⟩|⟨id,off,cap,n,cs,st,rfl,hg,h1,h2,h3,h4⟩
 ·simp at hl
 ·cases cap<;>simp only[sliceV,aK,fR,dD]
theorem VG {t:TypeId}(hu:P.underlying t=some (.slice e))(hz:zeroT P e=some z)(hk:bp P e=some 1)(hl:z.cells.length=1)(I:u.cells=[u])(eD:storable u=true): buildSliceV P h t 1 [(0,u)]=some (.sl h.next 0 1 (.exact 1),h.new (.cells 1 [u] false)):=by
 have k1:u.cells.length=1:=by rw[I];rfl
 have k2:u.cells.all storable=true:=by rw[I];simp[eD]
 have:buildSliceV P h t 1 [(0,u)]=some (.sl h.next 0 1 (.exact 1),newRow h u.cells):=by
  grind[buildSliceV,repeatL,fillV,Nat.beq_refl,aW]
 rw[this,I]
 rfl
theorem Ta (I:WI told){y:Nat}{v:V}(s:Sat h (Co v us::pt y (.cells 1 [u] false)::S))(hu:storable u=true)(hi:i≤us.length)(hl:us.length≤512):
  Call ⟨Tryz.prog,told⟩ 52 [v,.int .i64 (i:Int),.sl y 0 1 (.exact 1)] h fun r h'=>Sat h' (.arr 1 r (cW i u us)::S):=by
 rcases yh hi with hi|rfl
 ·exact(Y_ I s hu hi hl).mono fun r h' s=>s.dQ kL
 ·have s:=(s.dQ kL).ae [1]
  have s:Sat h (.arr 1 (.sl y 0 1 (.exact 1)) [u]::_):=s.dQ fun m r h=>⟨by simp[hu],.inr ⟨y,1,.exact 1,1,[],rfl,h,rfl,rfl,rfl,rfl,aI _⟩⟩
  have s:=s.ae [1]
  have e:cW us.length u us=us++[u]:=by simp[cW]
  rw[e]
  exact S1 I s hl
theorem Oj (s:Sat h (oP u c::cX us cs::S)): Sat h (cX (cW i u us) (cW i c cs)::S) :=
 s.two (aJ.cg _ _) (aJ.yX _ _) fun m r a b=>Ad (Cr i b) ⟨a,Cs i b⟩
theorem tO {P:Int→List Nat}: ∀ {fx:Fx} {l:Nat},(∀e∈fx,P' (e.2.pg:Int)=P e.2.pg)→nodsA P' l fx=nodsA P l fx:=by
 intro fx
 induction fx with
 |nil=>intro l _;rfl
 |cons e t I =>
  intro l he
  simp only[nodsA]
  rw[he e bB,I fun e' h'=>he e' (bA _ h')]
theorem gH.XA {P:Int→List Nat}: ∀ {fs:List sF} {l:Nat} {lo:Ky} {hi:Option Ky} {n:Nat} {eL eR:List En} {pO:List Nat},gH F P L r fs l lo hi n eL eR pO→∀f∈fs,f.pg∈pO:=by
 intro fs
 induction fs with
 |nil=>intro _ _ _ _ _ _ _ _ f hf;cases hf
 |cons f fs ih =>
  rintro l lo hi n eL eR pO ⟨fQ,eT,m9,jd,iM,kk,h1,_,_,_,_,_,_,_,_,_,_,rfl⟩ g I
  rcases List.mem_cons.1 I with rfl|I
  ·exact bB
  ·exact bA _ (gI _ (ih h1 g I))
noncomputable def spC : Code:=eu [1,1,1,1,1,1,1,1,1,0] ((Tryz.f54.body).getD .skip)
theorem abb (hT:W told)(jU:∀c∈ds,jQ l c)(eZ:1≤ds.length)(hl:l≤64)(s:Sat h (.arr 1 bv vs::cX vs ds::pt x (.cells 4 (uL n l Xy Xz) false)::S))
 (hE:Has E [(0,gv),(1,pv),(7,.ptr x 0),(10,v1),(11,bv),(12,vz),(14,kv)])
 (hq:∀E' h' vs',Has E' [(0,gv),(1,pv),(7,.ptr x 0),(10,v1),(11,bv),(12,vz),(14,kv)]→Sat h' (.arr 1 bv vs'::cX vs' (rgtC l ds)::pt x (.cells 4 (uL n l Xy Xz) false)::S)→Q .normal E' h'): WP ⟨Tryz.prog,told⟩ 196 spC E h Q:=by
 obtain⟨c,t,rfl⟩:∃c t,ds=c::t:=by
  cases ds with
  |nil=>simp at eZ
  |cons c t=>exact⟨c,t,rfl⟩
 refine WP.has hE (zK 4 rfl (zY s 2 fG b9 rfl ?_))
 by_cases h0:l=0
 ·subst h0
  refine zC rfl cV (by simp) ?_
  refine zv (zj rfl (WP.skip ?_))
  exact hq _ _ vs ⟨rfl,rfl,rfl,rfl,rfl,rfl,rfl,aa⟩ s
 ·have I:=jU c bB
  rw[jQ,ai h0] at I
  obtain⟨u,id,off,e1,e2,_,s⟩:=xB (P:=Tryz.prog) (i:=0) (ji _ _ _).s rfl aP dH bF s
  have hv:=s.aC (k:=2) rfl (bj _ _)
  have IF:=LM (b:=4) (d:=4) hv (aI _) I (by omega)
  have s:=(s.ae [2]).dQ (Jb (a:=0) (b:=4) (d:=4) (by omega) (by omega) I (by omega))
  have A9:=(s.aC (k:=0) rfl (bj _ _)).cells
  have s:=s.ae [1]
  obtain⟨sk,H8,h2,e3,e4,s2⟩:=sK (P:=Tryz.prog) (i:=0) (x:=slR3 u 0 4 4) s (by have:=jZ (s.ae [2]);simp only[bq] at this;omega) A9.1 A9.2 aP dH
  have s2:=ES (s2.ae [1,1])
  have s2:=s2.ae [1]
  refine zB rfl cV (by simp;omega) ?_
  refine zk 5 rfl (zo rfl (bS (r:=.ptr id off) rfl rfl e1) (zl rfl e2 (zo rfl (bO (p:=none) (q:=some (.int .i64 4)) (m:=some (.int .i64 4)) (p':=none) (q':=some 4) (m':=some 4) rfl rfl rfl rfl rfl rfl rfl IF) (zo rfl (bS (r:=.ptr sk H8) rfl rfl e3) (zS rfl (⟨_,e4,s2⟩) ?_)))))
  intro h s
  refine zv ?_
  have hrg:rgtC l (c::t)=c.take 4::t:=by rw[rgtC,ai h0]
  exact hq _ _ (vs.set 0 (slR3 u 0 4 4)) ⟨rfl,rfl,rfl,rfl,rfl,rfl,rfl,aa⟩ (by rw[hrg];exact s)
end
section
variable {told:cE} {p:Nat}
def xV (L root:Nat)(P:Int→List Nat)(A:Nat)(cs:List (List Nat)): Fx→Prop
 |[]=>lam L cs≤A
 |_::_=>∀c,bH (P root) 204 0 L c→lam L c+104≤A
theorem xV.fin {A:Nat}{P:Int→List Nat}{c:List (List Nat)}{t:Fx}(h:xV L r P A cs t)(I:bH (P r) 204 0 L c)(he:t.map (·.2)=[]→c=cs): lam L c≤A:=by
 cases t with
 |nil=>rw[he rfl];exact h
 |cons e t=>exact cY (CU _ _) (h c I)
theorem xV.up {A:Nat}{P:Int→List Nat}{c0:List (List Nat)}{t:Fx}(h:∀c,bH (P r) 204 0 L c→lam L c+104≤A)(hp:bH (P n) 204 0 l c0)(hr:t.map (·.2)=[]→l=L∧n=r)(hs:t.map (·.2)≠[]→P' r=P r)(hle:lam l cs≤lam l c0+104): xV L r P' A cs t:=by
 cases t with
 |nil =>
  obtain⟨rfl,rfl⟩:=hr rfl
  exact cY hle (h c0 hp)
 |cons e t=>intro c I;rw[hs (by simp)] at I;exact h c I
theorem Ze (hi:i≤cs.length)(I:c.length≤100): lam l (cW i c cs)≤lam l cs+104:=by
 unfold lam
 split
 ·omega
 ·rw[cB,cB,wA,kS hi];omega
def SpR (N B g a p q r aN root:Nat)(data R ot:List Nat)(ε:bE)(now:List (Int×List Nat))(Z:List Nat)(A L:Nat)(es:List En)(fZ nl:Nat)(S:List aE)(v:V)(h':H): Prop:=∃ag aF,EI N B ag∧Sm N ε ag∧NW N aF∧aF.length≤nl∧Sat h' (GA g a p q r data aN aF ag::S) ∧
 ((v=.int .i64 7∧N≤fZ)∨v=.int .i64 0∧∃M' L' cs' I,fY N R M' (pgG aF ag)∧jC N M' ((root::I)++ot)∧Nv (cS Z) (pgG aF ag) L' [] none cs' es I∧bH (pgG aF ag root) 204 0 L' cs'∧(L'≤L+1∧lam L' cs'≤A)∧∀m∈ot,pgG aF ag m=pgG now ε m)
theorem Sat.skip {A:aE}: ∀(k:Nat) {S:List aE},Sat h (A::S)→Sat h (A::S.drop k):=by
 intro k
 induction k with
 |zero=>intro S s;exact s
 |succ k I=>intro S s;cases S with
  |nil=>exact s
  |cons B S=>exact I (S:=S) (s.del 1)
set_option maxHeartbeats 1000000 in
theorem VH (hT:WI told)(hB:B≤2000)(hN:N≤2999): ∀(m:Nat) (fx:Fx) (l x n i:Nat) (lo:Ky) (hi:Option Ky) (eL eR:List En) (pO:List Nat) (cs Gv:List (List Nat)) (b0:List Nat) (es:List En) (ps:List Nat) (v w:V) (us:List V) (ε:bE) (now:List (Int×List Nat)) (M:List Nat) (Z:List Nat) (A L:Nat) (h:H) (S:List aE),
  fx.length<m→EI N B ε→NW N now→fY N R M (pgG now ε)→jC N M ((pO++n::ps)++ot)→gH (cS Z) (pgG now ε) L root (fx.map (·.2)) l lo hi n eL eR pO→Nv (cS Z) (pgG now ε) l lo hi cs es ps→486<cB cs→cB cs≤(if l=0 then 715 else 590)→fx.length+l=L→L≤60→xV L root (pgG now ε) A cs fx →
  Sat h (GA g a p q r data aN now ε::roS 1 v us::cX us cs::wyA w (dX fx++[(x,i)])::a_ x n l b0 Gv::nodsA (pgG now ε) (l+1) fx::S) →
  Call ⟨Tryz.prog,told⟩ 54 [.ptr g 0,w,v] h (SpR N B g a p q r aN root data R ot ε now Z A L (eL++es++eR) (((pO++n::ps)++ot).length+fx.length+3) (now.length+4*fx.length+7) S):=by
 have hW:=hT.w
 intro m
 induction m with
 |zero=>intro fx l x n i lo hi eL eR pO cs Gv b0 es ps v w us ε now M Z A L h S hm;exact absurd hm (vp _)
 |succ m ih =>
  intro fx l x n i lo hi eL eR pO cs Gv b0 es ps v w us ε now M Z A L h S hm cA hw gm kH mH jD B8 yQ hL LN hA s
  have gy:=jD.cells
  obtain⟨k0,Bl⟩:=jD.adN B8 yQ
  have adO:=Bl.k2
  have ae7:=Bl.k1
  have lz:cs.length≤512:=by
   have:cB cs≤715:=by split at yQ<;>omega
   rw[j5] at this
   omega
  have qd:(dX fx).length=fx.length:=by rw[dX,gh,bX]
  have ko:(dX fx++[(x,i)]).length=fx.length+1:=by rw[aX,qd];rfl
  have s:=s.ae [3]
  obtain⟨id,off,e1,e2,_⟩:=JR (P:=Tryz.prog) (j:=fx.length) (x:=x) (i:=i) eo kQ (by rw[ie (by omega),qd,gV];rfl) s
  have AF:=Ct (P:=Tryz.prog) s eo
  rw[ko] at AF
  have s:=s.ae [4]
  obtain⟨Xy,Xz,us0,s⟩:=bh.1 s
  refine Call.of_wp (hW.free _ rfl) Tryz.func54 rfl rfl (zK 8 rfl (zo rfl (aD rfl rfl rfl AF) (zo rfl (ak (r:=.int .i64 (fx.length:Int)) rfl rfl (by rw[show((fx.length:Nat):Int)=((fx.length+1:Nat):Int)-1 by omega];exact ew (aq (by omega) (by omega)))) ?_)))
  refine zo rfl (bS (r:=.ptr id off) rfl rfl e1) (zf rfl (jb _ _) (zl rfl (e2 _ e_) (zk 6 rfl (zY s 0 fG b9 rfl (zo rfl (ak (r:=.int .i64 ((l+1:Nat):Int)) rfl rfl (by rw[show((l+1:Nat):Int)=(l:Int)+1 by omega];exact aQ (aq (by omega) (by omega)))) ?_)))))
  refine zo rfl (Ux (r:=.int .i64 ((min 2 (l+1):Nat):Int)) rfl rfl (adB.trans (by rw[show min (2:Int) ((l+1:Nat):Int)=((min 2 (l+1):Nat):Int) by omega]))) ?_
  have s:=s.ae [6,6]
  refine zk 6 rfl (zc rfl (I8 hW (dK _ _ _) (fun c h=>(gy c h).2.1) lz (by omega) (by omega) s) ?_)
  rintro v0 h ⟨k,rfl,lT,qa,s⟩
  have hk:k≠0:=fun e=>lT e k0 Bl
  have nV:=qa hk
  obtain⟨ck,A_,uI,IZ,fK,nc,lS,mK⟩:=nV.parts
  have rN:1≤(gp l ck).length∧(gp l ck).length≤96:=by
   obtain⟨_,_,_,_,_,_,_,_,_,_,q5,q6⟩:=jD.cut lS A_
   exact⟨q5,q6⟩
  have oh:=kH.mc n (by simp)
  refine zk 6 rfl (zC rfl c8 (by simp;omega) ?_)
  refine zk 4 rfl ?_
  have sQ:=jZ (s.ae [1])
  have z0:=s
  have g1:=xD (P:=Tryz.prog) (b:=k) (s.kZ (j:=0) rfl (dK _ _ _)) (by omega) lS aP dH
  have g2:=JP (P:=Tryz.prog) (a:=k) (s.kZ (j:=0) rfl (dK _ _ _)) (by omega) aP dH
  obtain⟨v1,f1,s⟩:=Xl (P:=Tryz.prog) (b:=k) s (by omega) lS aP dH
  obtain⟨v2,f2,s⟩:=Xm (P:=Tryz.prog) (a:=k) (s.ae [1]) (by omega) aP dH
  rw[g1] at f1
  rw[g2] at f2
  cases f1
  cases f2
  have SZ:=(j3 (s.kZ (j:=1) rfl (dK _ _ _))).2.2
  have lT:=(j3 (s.kZ (j:=2) rfl (dK _ _ _))).2.2
  have qa:=(j3 (s.kZ (j:=0) rfl (dK _ _ _))).2.2
  refine WP.drawn [some (0,2),some (0,2),some (0,2),some (0,2),af,af,af,af,af,af] rfl (by kernel_rfl) (by kernel_rfl) ?_
  refine zM rfl (zM rfl (zM rfl (zO rfl (bO (p:=none) (q:=some (.int .i64 (k:Int))) (m:=some (.int .i64 (k:Int))) (p':=none) (q':=some k) (m':=some k) rfl rfl rfl rfl rfl (by rw[bT (by omega)];rfl) (by rw[bT (by omega)];rfl) (xD (s.kZ (j:=1) rfl (dK _ _ _)) (by omega) lS aP dH)) ?_)))
  refine zM rfl (zM rfl (zO rfl (bO (p:=some (.int .i64 (k:Int))) (q:=none) (m:=none) (p':=some k) (q':=none) (m':=none) rfl rfl rfl rfl (by rw[bT (by omega)];rfl) rfl rfl (JP (s.kZ (j:=1) rfl (dK _ _ _)) (by omega) aP dH)) ?_))
  have z0:=s
  refine aB.any rfl rfl rfl rfl (OpR.call rfl rfl rfl rfl (mO hW s (dK _ _ _) (by rw[fc];omega))) ?_
  intro cv h s
  have z1:=s.ae [1,1]
  dsimp only[bringA,getA,aL] at z1
  refine zA rfl (zA rfl ?_)
  refine aB.nil ⟨⟨fun _ _=>.inr ⟨rfl,⟨_,bV rfl⟩,SZ⟩,fun _ _=>.inr ⟨rfl,⟨_,bV rfl⟩,bg _ rfl⟩,fun _ _=>.inr ⟨rfl,⟨_,bV rfl⟩,bg _ rfl⟩,fV (.inr ⟨rfl,⟨_,bO (p:=none) (q:=some (.int .i64 (k:Int))) (m:=some (.int .i64 (k:Int))) (p':=none) (q':=some k) (m':=some k) rfl rfl rfl rfl rfl (by rw[bT (by omega)];rfl) (by rw[bT (by omega)];rfl) (xD (z0.kZ (j:=1) rfl (dK _ _ _)) (by omega) lS aP dH)⟩,lT⟩) (.inr ⟨rfl,⟨_,bO (p:=none) (q:=some (.int .i64 (k:Int))) (m:=some (.int .i64 (k:Int))) (p':=none) (q':=some k) (m':=some k) rfl rfl rfl rfl rfl (by rw[bT (by omega)];rfl) (by rw[bT (by omega)];rfl) (xD (z1.kZ (j:=1) rfl (dK _ _ _)) (by omega) lS aP dH)⟩,lT⟩),aa,aa,aa,aa,aa,aa,aa⟩,?_⟩
  refine zK 3 rfl ?_
  have s:=LH k (s.ae [4])
  have s:=LI k (s.ae [1])
  have s:=((s.del 5).del 4).del 1
  have s:=s.ae [9]
  refine zc rfl (Cq hW hB cA hw gm kH s) ?_
  rintro v0 h ⟨ep,oc,b1,b2,b3,b4,s1,(⟨rfl,rfl,ve⟩|⟨z,M1,rfl,c1,c2,c3,c4,c5,c6⟩)⟩
  ·skip
   refine zk 10 rfl (zB rfl aH (by decide) ?_)
   exact zk 7 rfl (WP.ret ⟨aa,_,rfl,ep,_,b1,b2,b3,by omega,s1.skip 10,.inl ⟨rfl,by omega⟩⟩)
  refine zk 10 rfl (zC rfl aH (rfl) ?_)
  have s:=s1.ae [3,0,3,0,1,0]
  obtain⟨y,rfl,eD,s⟩:=EK s (by rw[fc];omega)
  refine zk 7 rfl (zY s 2 fG b9 rfl (zm rfl (zo rfl (cQ (r:=.agg [.int .i64 ((0:Nat):Int),.int .i64 (l:Int),.aR,.sl y 0 (us.drop k).length (.rest 1 0)]) rfl (by rw[Pg];rfl)) ?_)))
  refine au.b_ s rfl rfl rfl (eU rfl (by rfl)) ?_
  intro x2 h s
  have s:=Cp (by rw[fc];omega) eD (s.ae [1])
  have s:=s.ae [1,0,2]
  have VI:(cs.drop k)[0]?=some ck:=by rw[fb,eS];exact A_
  obtain⟨Cu,abc,_⟩:=gy ck (aM A_)
  refine zc rfl (VB hW (i:=0) (fun m r h=>(ji _ _ _).s m r (kL m r h)) VI Cu (by omega) abc s) ?_
  intro kv h s
  refine zc rfl (rP hW s (bj _ _) (by have:=abc;unfold gp;split<;>simp<;>omega)) ?_
  intro cut h s
  have s:=(((s.del 2).del 1).ae [1]).dQ kL
  have s:=s.ae [0,1,2]
  refine zk 3 rfl (abb hW (fun c hc=>(gy c (jh hc)).1) (by rw[fc];omega) (by omega) s ⟨rfl,rfl,rfl,rfl,rfl,rfl,rfl,aa⟩ fun E' h' vs' eN s' => ?_)
  have s:=s'
  refine WP.has eN ?_
  have s:=s.ae [4]
  refine zK 7 rfl (zY s 3 fG b9 rfl (zm rfl (zc rfl (mN hW hB b1 b3 c2 (ji _ _ _).s nc (by omega) s) ?_)))
  rintro v0 h ⟨iQ,bz,rfl,d1,d2,d3,d4,s⟩
  have jO:∀q:Int,pgG (cD (z:Int) bz oc) iQ q=if (z:Int)=q then bz else pgG oc ep q:=fun q=>by rw[eH,gA d2]
  have abd:fY N R M1 (pgG (cD (z:Int) bz oc) iQ):=c4.frame (by rw[jO,ai (by omega)]) (by rw[jO,ai (by omega)])
  have Dy:=Ct (P:=Tryz.prog) (s.ae [10]) eo
  rw[ko] at Dy
  have VJ:=ga (i:=(z:Int)) (b:=bz) (now:=oc)
  generalize aeI:cD (z:Int) bz oc=mh at s jO abd d3 VJ
  refine zk 5 rfl (zC rfl aH (rfl) (zk 7 rfl (zo rfl (aD rfl rfl rfl Dy) ?_)))
  cases fx with
  |nil =>
   obtain⟨rfl,rfl,rfl,rfl,rfl,rfl,rfl⟩:=mH
   refine zB rfl c8 (by simp) ?_
   refine zk 5 rfl (zc rfl (Cq hW hB d1 d3 abd c5 s) ?_)
   rintro v0 h ⟨kC,I,g1,g2,g3,g4,s1,(⟨rfl,rfl,ve⟩|⟨z2,M2,rfl,k1,k2,k3,k4,k5,k6⟩)⟩
   ·skip
    refine zk 10 rfl (zB rfl aH (by decide) ?_)
    exact zk 7 rfl (WP.ret ⟨aa,_,rfl,kC,_,g1,b2.trans (d2.trans g2),g3,by omega,s1.skip 11,.inl ⟨rfl,by simp only[bq] at ve ⊢;omega⟩⟩)
   refine zk 10 rfl (zC rfl aH (rfl) ?_)
   have s:=s1.ae [0,4,4,2,2]
   refine zk 10 rfl (zY s 3 fG b9 rfl (zm rfl (zc rfl (mN hW hB g1 g3 k2 (dK _ _ _) fK (by omega) s) ?_)))
   rintro v0 h ⟨qB,bm,rfl,m1,m2,m3,m4,s⟩
   have nW:∀q:Int,pgG (cD (z2:Int) bm I) qB q=if (z2:Int)=q then bm else pgG I kC q:=fun q=>by rw[eH,gA m2]
   have LO:=ga (i:=(z2:Int)) (b:=bm) (now:=I)
   generalize XB:cD (z2:Int) bm I=oL at s nW m3 LO
   refine zk 5 rfl (zC rfl aH (rfl) (zk 4 rfl ?_))
   have z0:=s
   have D5:=nM (s.aC (k:=4) rfl (aZ _ _))
   refine WP.drawn [some (0,4),some (0,4),some (0,4),some (0,4),some (0,4),some (0,4),some (0,4),some (0,4),some (0,4),some (0,4),none,none,some (0,2),some (0,2),af,af,af,af] rfl (by kernel_rfl) (by kernel_rfl) ?_
   refine zM rfl (zM rfl (zN rfl (zF rfl (iZ _ _) (zL rfl (s.ld (k:=3) rfl b9 rfl) (zM rfl (zN rfl (zF rfl (fG _ _) (zL rfl (s.ld (k:=3) rfl b9 rfl) (zO rfl (ak rfl rfl (by exact aQ (aq (by omega) (by omega)))) ?_)))))))))
   refine zM rfl (aB.any rfl rfl rfl rfl (OpR.call rfl rfl rfl rfl (y9 hW (m:=z2) (by omega) (s.gQ (φ:=True) aa) Oh (by decide))) ?_)
   intro u1 h s
   have s:=(s.eW.del 1).ae [0,4]
   have z1:=s
   refine zM rfl (zM rfl (aB.any rfl rfl rfl rfl (OpR.call rfl rfl rfl rfl (y9 hW (m:=z) (by omega) (s.ae [1]) (aZ _ _) (by omega))) ?_))
   intro u2 h s
   have s:=(s.eW.del 1).ae [1,0]
   have LP:=s
   have Xg:=(s.aC (k:=0) rfl (bj _ _)).cells
   have hu2:=(s.aC (k:=1) rfl (bj _ _)).cells
   obtain⟨wG,h1,e3,s1⟩:=Og (P:=Tryz.prog) (x:=u1) (y:=u2) s aP lq dH rfl Xg.1 hu2.1 Xg.2 hu2.2
   refine aB.any rfl rfl rfl rfl (OpR.of (R:=fun v h'=>v=wG∧h'=h1) (ku rfl e3) ⟨rfl,rfl⟩) ?_
   rintro wG h ⟨rfl,rfl⟩
   have z3:=s1
   have s:=(s1.ae [1,1]).two (C:=cX [u1,u2] [eX z2 [],eX z (gp l ck)]) (aJ.cg _ _) (aJ.cg _ _) fun a b q1 q2=>⟨q1,q2,aa⟩
   have s:=s.ae [2,1]
   refine aB.any rfl rfl rfl rfl (OpR.call rfl rfl rfl rfl (mN (n:=n) (l:=l+1) hW hB m1 m3 oh.2 (ji _ _ _).s (by rw[j5];simp[tot,eX,cJ];omega) (by omega) s)) ?_
   rintro v0 h ⟨Qi,bn,rfl,n1,n2,n3,n4,s⟩
   have ET:∀q:Int,pgG (cD (n:Int) bn oL) Qi q=if (n:Int)=q then bn else pgG oL qB q:=fun q=>by rw[eH,gA n2]
   have adP:=ga (i:=(n:Int)) (b:=bn) (now:=oL)
   generalize aeJ:cD (n:Int) bn oL=Cv at s ET n3 adP
   refine zA rfl ?_
   refine aB.nil ⟨⟨fun _ _=>.inr ⟨rfl,⟨_,bV rfl⟩,bg _ rfl⟩,fun _ _=>.inr ⟨rfl,⟨_,bV rfl⟩,bg _ rfl⟩,fun _ _=>.inr ⟨rfl,⟨_,uW rfl⟩,bg _ rfl⟩,fun _ _=>.inr ⟨rfl,⟨_,mU rfl (iZ _ _)⟩,bg _ rfl⟩,BO (.inr ⟨rfl,⟨_,o_load rfl (z0.ld (k:=3) rfl b9 rfl)⟩,bg _ rfl⟩) (.inr ⟨rfl,⟨_,o_load rfl (z1.ld (k:=5) rfl b9 rfl)⟩,bg _ rfl⟩) (.inr ⟨rfl,⟨_,o_load rfl (LP.ld (k:=5) rfl b9 rfl)⟩,bg _ rfl⟩) (.inr ⟨rfl,⟨_,o_load rfl (z3.ld (k:=6) rfl b9 rfl)⟩,bg _ rfl⟩),fun _ _=>.inr ⟨rfl,⟨_,bV rfl⟩,bg _ rfl⟩,fun _ _=>.inr ⟨rfl,⟨_,uW rfl⟩,bg _ rfl⟩,fun _ _=>.inr ⟨rfl,⟨_,mU rfl (fG _ _)⟩,bg _ rfl⟩,BO (.inr ⟨rfl,⟨_,o_load rfl (z0.ld (k:=3) rfl b9 rfl)⟩,bg _ rfl⟩) (.inr ⟨rfl,⟨_,o_load rfl (z1.ld (k:=5) rfl b9 rfl)⟩,bg _ rfl⟩) (.inr ⟨rfl,⟨_,o_load rfl (LP.ld (k:=5) rfl b9 rfl)⟩,bg _ rfl⟩) (.inr ⟨rfl,⟨_,o_load rfl (z3.ld (k:=6) rfl b9 rfl)⟩,bg _ rfl⟩),fun _ _=>.inr ⟨rfl,⟨_,ak rfl rfl (by exact aQ (aq (by omega) (by omega)))⟩,bg _ rfl⟩,aa,aa,fun _ _=>.inr ⟨rfl,⟨_,bV rfl⟩,bg _ rfl⟩,fun _ _=>.inr ⟨rfl,⟨_,bV rfl⟩,D5⟩,aa,aa,aa,aa,aa⟩,?_⟩
   refine WP.ret ⟨aa,_,rfl,?_⟩
   have hP:∀q:Int,q≠1→q≠(z:Int)→q≠(z2:Int)→q≠(n:Int)→pgG Cv Qi q=pgG now ε q:=fun q h1 h2 h3 h4=>by
    rw[ET,ai (fun e=>h4 e.symm),nW,ai (fun e=>h3 e.symm),k6 q h1 h3,jO,ai (fun e=>h2 e.symm),c6 q h1 h2]
   have iS:=kH.nd
   simp only[dG,fF,oC,nB,not_or] at iS
   have DU:z∉ps∧z∉ot∧z≠n:=by simpa[not_or,and_assoc,and_comm,and_left_comm] using c3
   have KK:z2∉ps∧z2∉ot∧z2≠n∧z2≠z:=by
    simp only[dG,fF,gj,nB,not_or] at k3
    exact⟨k3.2.2.1,k3.2.2.2,k3.2.1,k3.1⟩
   have hold:∀q:Nat,q∈ps∨q∈ot→pgG Cv Qi q=pgG now ε q:=fun q hq=>by
    have hr:=kH.mc q (by simp only[dG,fF,gj,nB];exact .inr hq)
    refine hP q (by omega) (fun e => ?_) (fun e => ?_) (fun e => ?_)
    ·have:q=z:=by omega
     subst this
     rcases hq with q|q
     ·exact DU.1 q
     ·exact DU.2.1 q
    ·have:q=z2:=by omega
     subst this
     rcases hq with q|q
     ·exact KK.1 q
     ·exact KK.2.1 q
    ·have:q=n:=by omega
     subst this
     rcases hq with q|q
     ·exact iS.1.1 q
     ·exact iS.1.2 q
   have hbz:pgG Cv Qi (z:Int)=bz:=by
    rw[ET,ai (by omega),nW,ai (by omega),k6 _ (by omega) (by omega),jO,ay rfl]
   have hbm:pgG Cv Qi (z2:Int)=bm:=by
    rw[ET,ai (by omega),nW,ay rfl]
   obtain⟨nR,nT,rfl,Cl⟩:=VF (Z:=Z) (P':=pgG Cv Qi) (m:=z2) (z:=z) jD lS A_ (uI Z) (IZ Z) (by rw[hbm];exact m4.f) (by rw[hbz];exact d4.f) (fun q hq=>hold q (.inl hq)) (by omega) (by omega)
   refine⟨Qi,Cv,n1,b2.trans (d2.trans (g2.trans (m2.trans n2))),n3,by omega,s.skip 12,.inr ⟨rfl,M2,l+1,_,z2::(nR++z::nT),k4.frame ?_ ?_,k5.perm ?_,by simpa using Cl,?_,⟨aI _,?_⟩,fun q hq=>hold q (.inr hq)⟩⟩
   ·rw[ET,ai (by omega),nW,ai (by omega)]
   ·rw[ET,ai (by omega),nW,ai (by omega)]
   ·rw[lH]
    intro q
    simp only[dG,fF,lK,lJ]
    omega
   ·rw[ET,ay rfl]
    exact n4.f
   ·have hA:lam l cs≤A:=hA
    refine cY ?_ hA
    simp only[lam,cB,tot,eX,aX,cJ,bq,cj,ik,CX,yp,List.sum_nil]
    rw[ai (by omega)]
    unfold cB at B8
    split<;>omega
  |cons e t =>
   refine zC rfl c8 (by simp;omega) ?_
   have s:=s.ae [0,4,4,2,2,5,5]
   dsimp only[V.cells,List.length_cons,List.length_nil,Nat.reduceAdd,bringA,getA,aL] at s
   refine zk 5 rfl (WP.drawn [af,af,af,af,af,af,af,af,af,af,af,af] rfl (by kernel_rfl) (by kernel_rfl) ?_)
   refine zM rfl (zM rfl (zN rfl (zF rfl (iZ _ _) (zL rfl (s.ld (k:=3) rfl b9 rfl) (zM rfl (zN rfl (zF rfl (fG _ _) (zL rfl (s.ld (k:=3) rfl b9 rfl) (zM rfl (aB.any rfl rfl rfl rfl (OpR.call rfl rfl rfl rfl (mN (n:=n) (l:=l) hW hB d1 d3 oh.2 (dK _ _ _) fK (by omega) s)) ?_))))))))))
   rintro v0 h ⟨kC,bn,rfl,g1,g2,g3,g4,s⟩
   have nW:∀q:Int,pgG (cD (n:Int) bn mh) kC q=if (n:Int)=q then bn else pgG mh iQ q:=fun q=>by rw[eH,gA g2]
   have adQ:=ga (i:=(n:Int)) (b:=bn) (now:=mh)
   generalize aeK:cD (n:Int) bn mh=I at s nW g3 adQ
   refine zA rfl ?_
   refine aB.nil ⟨⟨aa,aa,aa,aa,aa,aa,aa,aa,aa,aa,aa,aa,aa⟩,?_⟩
   refine zK 3 rfl (zC rfl aH (rfl) ?_)
   have s:=s.ae [5]
   have H9:(dX t).length=t.length:=by rw[dX,gh,bX]
   have sn:(dX (e::t)++[(x,i)])[t.length]?=some (e.1,e.2.i):=by
    rw[qT,dA,ie (by omega),H9,gV]
    rfl
   obtain⟨xA,sI,y1,_,y3⟩:=JR (P:=Tryz.prog) eo kQ sn s
   have XC:=Ct (P:=Tryz.prog) s eo
   rw[ko] at XC
   refine zk 7 rfl (zo rfl (aD rfl rfl rfl XC) (zo rfl (ak (r:=.int .i64 (t.length:Int)) rfl rfl (by rw[show((t.length:Nat):Int)=(((e::t).length+1:Nat):Int)-2 by simp only[bq];omega];exact ew (aq (by omega) (by omega)))) ?_))
   refine zo rfl (bS (r:=.ptr xA sI) rfl rfl y1) (zl rfl (y3 Hu) ?_)
   refine au.b_ s rfl rfl rfl (cu Pf) (fun p20 h s => ?_)
   refine zS rfl (s.gX (j:=0) rfl kQ rfl rfl) (fun h s => ?_)
   refine zk 5 rfl (zc rfl (y9 hW (m:=z) (by omega) (s.ae [6]) (aZ _ _) (by omega)) ?_)
   intro kc h s
   have s:=((((((((s.eW.del 1).del 12).del 11).del 10).del 9).del 8).del 6).del 5).del 4
   have s:=s.ae [4]
   dsimp only[V.cells,List.length_cons,List.length_nil,Nat.reduceAdd,bringA,getA,aL,setA] at s
   have s:=vh.1 s
   obtain⟨bve,XD,use,s⟩:=bh.1 s
   have s:=s.ae [0,5,1,1,0,1]
   dsimp only[bringA,getA,aL] at s
   -- what lies on the pages
   have hP3:∀q:Int,q≠1→q≠(z:Int)→q≠(n:Int)→pgG I kC q=pgG now ε q:=fun q h1 h2 h3=>by
    rw[nW,ai (fun e=>h3 e.symm),jO,ai (fun e=>h2 e.symm),c6 q h1 h2]
   have iS:=kH.nd
   rw[dA,nA] at iS
   have Cw:=iS.2.1
   rw[fF,oC] at Cw
   have hold:∀q:Nat,q∈pO∨q∈ps∨q∈ot→pgG I kC q=pgG now ε q:=fun q hq=>by
    have hm:q∈(pO++n::ps)++ot:=by
     simp only[nB,gj]
     rcases hq with q|q|q
     ·exact .inl (.inl q)
     ·exact .inl (.inr (.inr q))
     ·exact .inr q
    have hr:=kH.mc q hm
    refine hP3 q (by omega) (fun e => ?_) (fun e => ?_)
    ·have:q=z:=by omega
     subst this
     exact c3 hm
    ·have:q=n:=by omega
     subst this
     rcases hq with q1|q1
     ·exact iS.2.2 q q1 q (by simp) rfl
     ·exact Cw.1 (List.mem_append.2 q1)
   have hbz:pgG I kC (z:Int)=bz:=by
    have:z≠n:=fun e=>c3 (by simp[e])
    rw[nW,ai (by omega),jO,ay rfl]
   have hbn:pgG I kC (n:Int)=bn:=by rw[nW,ay rfl]
   obtain⟨jA,fP,nR,nT,rfl,rfl,u1,u2,u3,u4,u5,u6⟩:=jD.cut lS A_
   have adR:=gH.frame (P':=pgG I kC) mH fun q hq=>hold q (.inl hq)
   obtain⟨fQ,eT,m9,jd,iM,Xh,m_,r1,r2,r3,r4,r5,r6⟩:=gH.two adR (u1.frame fun q hq=>hold q (.inr (.inl (gI _ hq)))) (uI Z) (by rw[hbn];exact g4.f) (u2.frame fun q hq=>hold q (.inr (.inl (lF _ hq)))) (IZ Z) (by rw[hbz];exact d4.f) u3 u4 ⟨u5,u6⟩ (n2:=z) (by omega)
   dsimp only at r1 r2 r3 r4 r5 r6
   have adS:e.2.pg∈pO:=by
    obtain⟨_,_,_,_,_,_,_,_,_,_,_,_,_,_,_,_,_,hp⟩:=mH
    rw[hp]
    exact bB
   have Ke:bH (pgG now ε (e.2.pg:Int)) 204 0 (l+1) (bP e.2.ks):=by rw[←hold e.2.pg (.inl adS)];exact r5
   have tE:jC N M1 ((iM++e.2.pg::m_)++ot):=c5.perm (by
    rw[lH] at r4 ⊢
    intro q
    have:=r4 q
    simp only[lJ,lK] at this ⊢
    omega)
   have VK:=tE.nd
   rw[dA,nA] at VK
   have VL:=VK.2.1
   rw[fF,oC] at VL
   have Gd:=tE.mc e.2.pg (by simp)
   have abe:∀q:Nat,q∈iM→q≠e.2.pg:=fun q hq e2=>VK.2.2 q hq e.2.pg (by simp) e2
   have adT:∀q:Nat,q∈m_→q≠e.2.pg:=fun q hq e2=>VL.1 (by rw[←e2];exact gI _ hq)
   have hgt:∀q:Nat,q∈ot→q≠e.2.pg:=fun q hq e2=>VL.1 (by rw[←e2];exact lF _ hq)
   have yZ:=eC (ks:=e.2.ks)
   have hkz:(eX z (gp l ck)).length=4+(gp l ck).length:=by simp[eX,cJ]
   have hA:∀c,bH (pgG now ε root) 204 0 L c→lam L c+104≤A:=hA
   have Cx:root∈pO:=by
    rcases mH.rt with⟨q,_⟩|⟨_,q⟩
    ·cases q
    ·exact q
   have Gw:t.map (·.2)=[]→l+1=L∧e.2.pg=root:=fun q=>by
    rcases r1.rt with⟨_,q2⟩|⟨q2,_⟩
    ·exact q2
    ·exact absurd q q2
   have adU:t.map (·.2)≠[]→root∈iM:=fun q=>by
    rcases r1.rt with⟨q2,_⟩|⟨_,q2⟩
    ·exact absurd q2 q
    ·exact q2
   have AG:lam (l+1) (cW (e.2.i+1) (eX z (gp l ck)) (bP e.2.ks))≤lam (l+1) (bP e.2.ks)+104:=Ze (by omega) (by omega)
   refine zk 3 rfl ?_
   have s:=s.ae [4,4]
   dsimp only[bringA,getA,aL] at s
   refine WP.drawn [af,af,af,af,af,af,af,af,af,af,af,af,af,af,af] rfl (by kernel_rfl) (by kernel_rfl) ?_
   refine zF rfl (jb _ _) (zL rfl (s.ld (k:=3) rfl e_ rfl) (zN rfl (zF rfl (nN _ _) (zL rfl (s.ld (k:=2) rfl bF rfl) (zF rfl (si _ _) (zL rfl (s.ld (k:=3) rfl b9 rfl) (zO rfl (ak (r:=.int .i64 ((e.2.i+1:Nat):Int)) rfl rfl (by rw[show((e.2.i+1:Nat):Int)=(e.2.i:Int)+1 by omega];exact aQ (aq (by omega) (by have:=Ke.fits;rw[yZ] at this;omega)))) ?_)))))))
   refine zM rfl (aB.any rfl rfl rfl rfl (OpR.call rfl rfl rfl rfl (Lh hW (i:=e.2.i+1) s (bj _ _) (bj _ _) Ke (by omega) (by omega))) ?_)
   rintro v0 h (⟨cU,ub,b',rfl,uq,s⟩|⟨ve,rfl,s⟩)
   ·skip
    refine zM rfl (zO rfl (iU rfl rfl) (zO rfl (iU rfl rfl) (zA rfl (zA rfl ?_))))
    refine aB.nil ⟨⟨aa,aa,aa,aa,aa,aa,aa,aa,aa,aa,aa,aa,aa,aa,aa,aa⟩,?_⟩
    refine zK 5 rfl (WP.block (zg rfl (zB rfl c8 (rfl) (zk 6 rfl (zY s 4 jb e_ rfl (zn rfl (zY s 3 iZ b9 rfl (zm rfl (zc rfl (wF hW hB g1 g3 Gd.2 (s.ae [9]) (aZ _ _) uq.good) ?_)))))))))
    rintro v0 h ⟨qB,rfl,w1,w2,w3,s⟩
    have Cy:∀q:Int,pgG (cD (e.2.pg:Int) b' I) qB q=if (e.2.pg:Int)=q then b' else pgG I kC q:=fun q=>by rw[eH,gA w2]
    have LO:=ga (i:=(e.2.pg:Int)) (b:=b') (now:=I)
    generalize XB:cD (e.2.pg:Int) b' I=oL at s Cy w3 LO
    refine zk 2 rfl (WP.ret ⟨aa,_,rfl,?_⟩)
    have r1':=r1.frame (P':=pgG oL qB) fun q hq=>by
     have:=abe q hq
     rw[Cy,ai (by omega)]
    have r2':=r2.frame (P':=pgG oL qB) fun q hq=>by
     have:=adT q hq
     rw[Cy,ai (by omega)]
    obtain⟨Gx,cs',t1,t2,t3,t4⟩:=gH.PZ r1' r2' (by rw[Cy,ay rfl];exact uq) (fun _=>by
     unfold cS
     rw[ai (by omega),kS (by omega),yZ]
     exact .inl (by omega))
    rw[r3] at t1
    refine⟨qB,oL,w1,b2.trans (d2.trans (g2.trans w2)),w3,by omega,s.skip 9,.inr ⟨rfl,M1,L,cs',Gx,c4.frame ?_ ?_,tE.perm (t3.symm.append_right ot),t1,t2,⟨by omega,(xV.up (P':=pgG oL qB) (t:=t) hA Ke Gw (fun q=>by rw[Cy,ai (by have:=abe root (adU q);omega)];exact hold root (.inl Cx)) AG).fin t2 t4⟩,fun q hq => ?_⟩⟩
    ·rw[Cy,ai (by omega),nW,ai (by omega),jO,ai (by omega)]
    ·rw[Cy,ai (by omega),nW,ai (by omega),jO,ai (by omega)]
    ·have:=hgt q hq
     rw[Cy,ai (by omega),hold q (.inr (.inr hq))]
   ·skip
    refine zM rfl (zO rfl (iU rfl rfl) (zO rfl (iU rfl rfl) (zA rfl (zA rfl ?_))))
    refine aB.nil ⟨⟨aa,aa,aa,aa,aa,aa,aa,aa,aa,aa,aa,aa,aa,aa,aa,aa⟩,?_⟩
    refine zK 5 rfl (WP.block (zg rfl (zC rfl c8 (rfl) (zk 5 rfl (zB rfl c8 (rfl) (zk 4 rfl ?_))))))
    have ae8:=jZ (s.ae [5])
    have ae9:e.2.ks.length≤512:=by have:=Ke.fits;omega
    have sS:=(s.aC (k:=1) rfl (bj _ _))
    have hkb:=nM sS
    have F1:=s.acy (j:=7) (b:=t.length+1) rfl
    have Gy:(dX (e::t)++[(x,i)]).length=t.length+2:=ko
    have z0:=s
    refine WP.aan [some (0,4),some (0,4),some (0,4),some (0,4),some (0,4),some (0,4),af,af,af,af,af,af,some (0,3),some (0,3),some (0,3),some (0,2),af,af,af,af] rfl (by kernel_rfl) (by kernel_rfl) ?_
    refine zM rfl (zM rfl (zM rfl (zO rfl (aD (r:=.int .i64 ((t.length+2:Nat):Int)) rfl rfl rfl (by rw[←Gy];exact s.AA (j:=7) rfl eo)) ?_)))
    refine zO rfl (ak (r:=.int .i64 ((t.length+1:Nat):Int)) rfl rfl (by rw[show((t.length+1:Nat):Int)=((t.length+2:Nat):Int)-1 by omega];exact ew (aq (by omega) (by omega)))) ?_
    refine zO rfl (bO (p:=none) (q:=some (.int .i64 ((t.length+1:Nat):Int))) (m:=none) (p':=none) (q':=some (t.length+1)) (m':=none) rfl rfl rfl rfl rfl (by rw[bT (by omega)];rfl) rfl (s.AB (j:=7) rfl (b:=t.length+1) eo kQ (by omega))) ?_
    refine zF rfl (jb _ _) (zL rfl (s.ld (k:=3) rfl e_ rfl) (zN rfl (zF rfl (cN _ _) (zL rfl (s.ld (k:=2) rfl gz rfl) (aB.any rfl rfl rfl rfl (OpR.call rfl rfl rfl rfl (mO hW (s.ae [4]) (dK _ _ _) (by omega))) ?_)))))
    intro cl h s
    have s:=s.ae [0,0,1,2,2,1,1,1]
    dsimp only[aL,bringA,getA] at s
    have z1:=s
    refine zF rfl (si _ _) (zL rfl (s.ld (k:=3) rfl b9 rfl) (zO rfl (ak (r:=.int .i64 ((e.2.i+1:Nat):Int)) rfl rfl (by rw[show((e.2.i+1:Nat):Int)=(e.2.i:Int)+1 by omega];exact aQ (aq (by omega) (by omega)))) ?_))
    refine zM rfl (aB.any rfl rfl rfl rfl (OpR.of (R:=fun v h'=>v=.sl h.next 0 1 (.exact 1)∧h'=h.new (.cells 1 [kc] false)) (ku rfl (VG aP lq dH rfl sS.cells.1 sS.cells.2)) ⟨rfl,rfl⟩) ?_)
    rintro v' h' ⟨rfl,rfl⟩
    have s:=s.new (.cells 1 [kc] false)
    have LP:=s.ae [0,0,0,0,0,0,0,1]
    dsimp only[bringA,getA,aL] at LP
    refine aB.any rfl rfl rfl rfl (OpR.call rfl rfl rfl rfl (Ta hT (s.ae [1]) sS.cells.2 (by omega) (by omega))) ?_
    intro iv h s
    have z3:=s
    have s:=(s.ae [4]).dup (aJ.yX _ _)
    dsimp only[aL,bringA] at s
    have s:=Oj (i:=e.2.i+1) (s.ae [4,0])
    dsimp only[aL,bringA] at s
    have s:=((s.ae [2]).tZ).dQ JN
    dsimp only[aL,bringA] at s
    have s:=s.ae [5,7,3,2]
    dsimp only[bringA,getA,aL] at s
    have s:Sat h (a_ e.1 e.2.pg (l+1) (pgG now ε e.2.pg) (bP e.2.ks)::_):=bh.2 ⟨bve,XD,use,s⟩
    have s:=LJ (b:=t.length+1) (by omega) (by omega) (s.ae [5])
    dsimp only[aL,bringA] at s
    have uK:(dX (e::t)++[(x,i)]).take (t.length+1)=dX t++[(e.1,e.2.i)]:=by
     rw[qT,gq (by rw[aX,H9];rfl)]
    rw[uK,←tO (P':=pgG I kC) (fx:=t) fun e' qn=>hold e'.2.pg (.inl (mH.XA e'.2 (bA _ (oz qn))))] at s
    have s:=(s.del 4).ae [5,2,2,0,0,0]
    dsimp only[aL,bringA,getA] at s
    have Ij:tot (cW (e.2.i+1) (eX z (gp l ck)) (bP e.2.ks))=tot (bP e.2.ks)+(eX z (gp l ck)).length:=wA
    have AU:(cW (e.2.i+1) (eX z (gp l ck)) (bP e.2.ks)).length=e.2.ks.length+1:=by rw[kS (by omega),yZ]
    have hft:=Ke.fits
    refine aB.any rfl rfl rfl rfl (OpR.call rfl rfl rfl rfl (ih t (l+1) e.1 e.2.pg e.2.i fQ eT m9 jd iM _ _ _ Xh m_ iv _ _ kC I M1 Z A L h S (by simp only[bq] at hm;omega) g1 g3 (c4.frame (by rw[nW,ai (by omega),jO,ai (by omega)]) (by rw[nW,ai (by omega),jO,ai (by omega)])) tE r1 r2 (by rw[j5,Ij,AU];omega) (by rw[ai (by omega),j5,Ij,AU];omega) (by simp only[bq] at hL;omega) LN (xV.up (P':=pgG I kC) hA Ke Gw (fun _=>hold root (.inl Cx)) AG) s)) ?_
    rintro v0 h ⟨qB,oL,w1,w2,w3,w4,s,uy⟩
    refine zA rfl ?_
    refine aB.nil ⟨⟨⟨fun _ _=>.inr ⟨rfl,⟨_,bV rfl⟩,bg _ rfl⟩,fun _ _=>.inr ⟨rfl,⟨_,bV rfl⟩,F1.1⟩,fun _ _=>.inr ⟨rfl,⟨_,bV rfl⟩,F1.1⟩,BO (.inr ⟨rfl,⟨_,aD (r:=.int .i64 ((t.length+2:Nat):Int)) rfl rfl rfl (by rw[←Gy];exact z0.AA (j:=7) rfl eo)⟩,bg _ rfl⟩) (.inr ⟨rfl,⟨_,aD (r:=.int .i64 ((t.length+2:Nat):Int)) rfl rfl rfl (by rw[←Gy];exact z1.AA (j:=7) rfl eo)⟩,bg _ rfl⟩) (.inr ⟨rfl,⟨_,aD (r:=.int .i64 ((t.length+2:Nat):Int)) rfl rfl rfl (by rw[←Gy];exact LP.AA (j:=7) rfl eo)⟩,bg _ rfl⟩) (.inr ⟨rfl,⟨_,aD (r:=.int .i64 ((t.length+2:Nat):Int)) rfl rfl rfl (by rw[←Gy];exact z3.AA (j:=7) rfl eo)⟩,bg _ rfl⟩),fun _ _=>.inr ⟨rfl,⟨_,ak (r:=.int .i64 ((t.length+1:Nat):Int)) rfl rfl (by rw[show((t.length+1:Nat):Int)=((t.length+2:Nat):Int)-1 by omega];exact ew (aq (by omega) (by omega)))⟩,bg _ rfl⟩,BO (.inr ⟨rfl,⟨_,bO (p:=none) (q:=some (.int .i64 ((t.length+1:Nat):Int))) (m:=none) (p':=none) (q':=some (t.length+1)) (m':=none) rfl rfl rfl rfl rfl (by rw[bT (by omega)];rfl) rfl (z0.AB (j:=7) rfl (b:=t.length+1) eo kQ (by omega))⟩,F1.2⟩) (.inr ⟨rfl,⟨_,bO (p:=none) (q:=some (.int .i64 ((t.length+1:Nat):Int))) (m:=none) (p':=none) (q':=some (t.length+1)) (m':=none) rfl rfl rfl rfl rfl (by rw[bT (by omega)];rfl) rfl (z1.AB (j:=7) rfl (b:=t.length+1) eo kQ (by omega))⟩,F1.2⟩) (.inr ⟨rfl,⟨_,bO (p:=none) (q:=some (.int .i64 ((t.length+1:Nat):Int))) (m:=none) (p':=none) (q':=some (t.length+1)) (m':=none) rfl rfl rfl rfl rfl (by rw[bT (by omega)];rfl) rfl (LP.AB (j:=7) rfl (b:=t.length+1) eo kQ (by omega))⟩,F1.2⟩) (.inr ⟨rfl,⟨_,bO (p:=none) (q:=some (.int .i64 ((t.length+1:Nat):Int))) (m:=none) (p':=none) (q':=some (t.length+1)) (m':=none) rfl rfl rfl rfl rfl (by rw[bT (by omega)];rfl) rfl (z3.AB (j:=7) rfl (b:=t.length+1) eo kQ (by omega))⟩,F1.2⟩),aa,aa,aa,aa,aa,aa,fun _ _=>.inr ⟨rfl,⟨_,mU rfl (si _ _)⟩,bg _ rfl⟩,BK (.inr ⟨rfl,⟨_,o_load rfl (z0.ld (k:=3) rfl b9 rfl)⟩,bg _ rfl⟩) (.inr ⟨rfl,⟨_,o_load rfl (z1.ld (k:=3) rfl b9 rfl)⟩,bg _ rfl⟩) (.inr ⟨rfl,⟨_,o_load rfl (LP.ld (k:=4) rfl b9 rfl)⟩,bg _ rfl⟩),fun _ _=>.inr ⟨rfl,⟨_,ak (r:=.int .i64 ((e.2.i+1:Nat):Int)) rfl rfl (by rw[show((e.2.i+1:Nat):Int)=(e.2.i:Int)+1 by omega];exact aQ (aq (by omega) (by omega)))⟩,bg _ rfl⟩,fun _ _=>.inr ⟨rfl,⟨_,bV rfl⟩,hkb⟩,aa,aa,aa,aa,aa⟩,.inl rfl,.inl rfl,.inl rfl,.inl rfl,.inl rfl,.inl rfl,.inl rfl,.inl rfl,.inl rfl,.inl rfl,.inl rfl,.inl rfl,.inl rfl,.inl rfl,.inl rfl,.inl rfl,.inr rfl,.inl rfl,.inl rfl,.inl rfl,aa⟩,?_⟩
    refine WP.ret ⟨aa,_,rfl,?_⟩
    refine⟨qB,oL,w1,b2.trans (d2.trans (g2.trans w2)),w3,by simp only[bq];omega,s,?_⟩
    rw[r3] at uy
    rcases uy with⟨q,q2⟩|⟨q,M',L',cs',Gx,y1,y2,y3,y4,y5,y6⟩
    ·exact .inl ⟨q,by
      have Ws:=r4.length_eq
      simp only[aX,bq] at Ws q2 ⊢
      omega⟩
    ·exact .inr ⟨q,M',L',cs',Gx,y1,y2,y3,y4,y5,fun m hm=>(y6 m hm).trans (hold m (.inr (.inr hm)))⟩
end
def qC (N root:Nat)(R ot:List Nat)(Z:List Nat)(A Lx:Nat)(P0 P':Int→List Nat)(es:List En): Prop:=∃M' L' cs' I,fY N R M' P'∧jC N M' ((root::I)++ot)∧Nv (cS Z) P' L' [] none cs' es I∧bH (P' root) 204 0 L' cs'∧(L'≤Lx∧lam L' cs'≤A)∧∀m∈ot,P' (m:Nat)=P0 m
section
variable {told:cE} {A:Nat} {p:Nat} {b0:List Nat} {e0:Nat} {Gv:List (List Nat)} {v ov:V} {was:Bool}
noncomputable def tpT : Code:=eu [1,1,1,1,1,1,1,1,1,1] ((Tryz.f14.body).getD .skip)
theorem AH (hT:WI told)(hB:B≤2000)(hN:N≤2999)(cA:EI N B ε)(hw:NW N now)(gm:fY N R M (pgG now ε))(kH:jC N M ((pO++[n])++ot))(mH:gH (cS Z) (pgG now ε) L root (fx.map (·.2)) 0 lo hi n eL eR pO)(jU:jc lo hi jA)(eZ:jA≠[])(ko:fx.length=L)(hL:L≤60)(Tb:xV L root (pgG now ε) A (jA.map ey) fx)
 (hA:(e0=0∧∃b',bH b' 204 0 0 (jA.map ey)∧Sat h (GA g a p q r data aN now ε::aU pv b'::a_ x n 0 b0 Gv::S)) ∨
   (e0=7∧486<cB (jA.map ey)∧cB (jA.map ey)≤715∧Sat h (GA g a p q r data aN now ε::.arr 1 v us::cX us (jA.map ey)::wyA w (dX fx++[(x,0)])::a_ x n 0 b0 Gv::nodsA (pgG now ε) 1 fx::S)))(hE:Has E [(0,.ptr g 0),(8,ov),(10,.int .i64 (e0:Int)),(11,w),(12,.ptr x 0),(14,.bool was),(16,v),(17,pv)])
 (hq:∀E' h' ag aF,EI N B ag→Sm N ε ag→NW N aF→aF.length≤now.length+4*L+7→Sat h' (GA g a p q r data aN aF ag::S) →
   ((Has E' [(8,.aR),(9,.bool false),(10,.int .i64 7)]∧N≤((pO++[n])++ot).length+L+3)∨Has E' [(8,ov),(9,.bool was),(10,.int .i64 0)]∧qC N root R ot Z A (L+1) (pgG now ε) (pgG aF ag) (eL++jA++eR))→Q .ret E' h'): WP ⟨Tryz.prog,told⟩ 112 tpT E h Q:=by
 have hW:=hT.w
 have jD:Nv (cS Z) (pgG now ε) 0 lo hi (jA.map ey) jA []:=⟨rfl,jU,rfl⟩
 have oh:=kH.mc n (by simp)
 rcases hA with⟨rfl,b',uq,s⟩|⟨rfl,B8,yQ,s⟩
 ·have s:=s.ae [2]
  obtain⟨Xy,Xz,us0,s⟩:=bh.1 s
  refine WP.has hE (zK 4 rfl (zC rfl c8 (rfl) (zk 5 rfl (zB rfl c8 (rfl) (zk 6 rfl (zY s 0 iZ b9 rfl (zm rfl ?_)))))))
  have s:=s.ae [4,4]
  refine zc rfl (wF hW hB cA hw oh.2 s (aZ _ _) uq.good) ?_
  rintro v0 h ⟨qB,rfl,w1,w2,w3,s⟩
  have I:∀q:Int,pgG (cD (n:Int) b' now) qB q=if (n:Int)=q then b' else pgG now ε q:=fun q=>by rw[eH,gA w2]
  have LO:=ga (i:=(n:Int)) (b:=b') (now:=now)
  generalize XB:cD (n:Int) b' now=oL at s I w3 LO
  refine zk 6 rfl (zC rfl aH (rfl) (zk 11 rfl (WP.ret ?_)))
  have iS:=kH.nd
  rw[dA,nA] at iS
  have Cw:=iS.2.1
  rw[fF,oC] at Cw
  obtain⟨Gx,cs',t1,t2,t3,t4⟩:=gH.PZ (mH.frame (P':=pgG oL qB) fun q hq=>by
   have:q≠n:=fun e=>iS.2.2 q hq n (by simp) e
   rw[I,ai (by omega)]) (jD.frame fun q hq=>by cases hq) (by rw[I,ay rfl];exact uq) (fun _=>by
   unfold cS
   rw[ay rfl]
   simpa using eZ)
  have hA4:xV L root (pgG oL qB) A (jA.map ey) fx:=by
   cases fx with
   |nil=>exact Tb
   |cons e t =>
    have Cx:root∈pO:=by
     rcases mH.rt with⟨q,_⟩|⟨_,q⟩
     ·cases q
     ·exact q
    intro c hc
    have:root≠n:=fun e=>iS.2.2 root Cx n (by simp) e
    rw[I,ai (by omega)] at hc
    exact Tb c hc
  refine hq _ _ qB oL w1 w2 w3 (by omega) (s.skip 5) (.inr ⟨⟨rfl,rfl,rfl,aa⟩,M,L,cs',Gx,gm.frame ?_ ?_,kH.perm (t3.symm.append_right ot),t1,t2,⟨by omega,hA4.fin t2 t4⟩,fun m hm => ?_⟩)
  ·rw[I,ai (by omega)]
  ·rw[I,ai (by omega)]
  ·have:m≠n:=fun e=>Cw.1 (by rw[←e];exact lF _ hm)
   rw[I,ai (by omega)]
 ·have s:=((s.ae [1]).tZ).dQ JN
  have s:=s.ae [1,0]
  refine WP.has hE (zK 4 rfl (zB rfl c8 (rfl) (zk 6 rfl (zc rfl (VH (ot:=ot) (root:=root) (R:=R) hT hB hN (fx.length+1) fx 0 x n 0 lo hi eL eR pO (jA.map ey) Gv b0 jA [] v w us ε now M Z A L h S (vn _) cA hw gm kH mH jD B8 (by rw[ay rfl];exact yQ) (by omega) hL Tb s) ?_))))
  rintro v0 h ⟨qB,oL,w1,w2,w3,w4,s,(⟨rfl,qH⟩|⟨rfl,uy⟩)⟩
  ·skip
   exact zk 6 rfl (zB rfl aH (rfl) (zk 9 rfl (WP.ret (hq _ _ qB oL w1 w2 w3 (by rw[←ko];exact w4) s (.inl ⟨⟨rfl,rfl,rfl,aa⟩,by rw[←ko];exact qH⟩)))))
  ·skip
   exact zk 6 rfl (zC rfl aH (rfl) (zk 11 rfl (WP.ret (hq _ _ qB oL w1 w2 w3 (by rw[←ko];exact w4) s (.inr ⟨⟨rfl,rfl,rfl,aa⟩,uy⟩)))))
end
end Go.Proofs.YtdonpgpfplgigaaGreat.Am
